/- Nodes as an argument, read into a forest; plain runes. -/
import Derived.Test.YtghlodpbbghcoaaGreatDoorMem
import Derived.Test.YtghlodpbbghcoaaGreatDoorFrame
import Derived.Test.YtghlodpbbghcoaaGreatDoorProg
import Derived.Lib.MapLaws
import Derived.Lib.ValidLaws
import Derived.Deep.DeepCutAuto
import Derived.Lib.Strings
import Derived.Maps.OwnSet
import Derived.Maps.OwnOps
import Derived.Lib.Hide
import Derived.Deep.CutBlock
import Derived.Deep.Fields
import Derived.Below
import Derived.Laws.Rows
import Derived.Laws.OwnMore
import Derived.Laws.NewBlocks
import Derived.Maps.AppendAt
import Derived.WalkKit
import Derived.WalkSpells
import Derived.Lib.Walk
import Derived.OwnWalk
import Derived.Laws.BytesArg
import Derived.Lib.SlBytesRow
import Derived.Lib.ConvBytes
import Derived.Deep.RegionHeld3
import Derived.Deep.RegionLaw
import Derived.Deep.RegionWith
import Derived.Deep.AppendLies
namespace Go.Proofs.YtghlodpbbghcoaaGreatDoor.Nd
section
open Go.Lib
/-- The characters of bytes. -/
def runesG : Nat → List UInt8 → List Int
  | 0, _ => []
  | n + 1, l => if l = [] then [] else ((decodeL l).1 : Int) :: runesG n (l.drop (decodeL l).2)
theorem runesG_fuel : ∀ (n m : Nat) (l : List UInt8), l.length ≤ n → l.length ≤ m → runesG n l = runesG m l
  | 0, 0, _, _, _ => rfl
  | 0, m + 1, l, h, _ => by
    have : l = [] := List.length_eq_zero_iff.1 (by omega)
    simp [runesG, this]
  | n + 1, 0, l, _, h => by
    have : l = [] := List.length_eq_zero_iff.1 (by omega)
    simp [runesG, this]
  | n + 1, m + 1, l, hn, hm => by
    unfold runesG
    by_cases hne : l = []
    · simp [hne]
    · have hw := decodeL_width l
      have hl : 0 < l.length := List.length_pos_iff.2 hne
      rw [if_neg hne, if_neg hne, runesG_fuel n m (l.drop (decodeL l).2) (by rw [List.length_drop]; omega) (by rw [List.length_drop]; omega)]
def runesL (l : List UInt8) : List Int := runesG l.length l
theorem runesL_step (l : List UInt8) (hne : l ≠ []) : runesL l = ((decodeL l).1 : Int) :: runesL (l.drop (decodeL l).2) := by
  have hw := decodeL_width l
  have hl : 0 < l.length := List.length_pos_iff.2 hne
  unfold runesL
  obtain ⟨n, hn⟩ : ∃ n, l.length = n + 1 := ⟨l.length - 1, by omega⟩
  rw [hn]
  show (if l = [] then [] else _) = _
  rw [if_neg hne, runesG_fuel n (l.drop (decodeL l).2).length _ (by rw [List.length_drop]; omega) (Nat.le_refl _)]
/-- Characters made right (was the one ahead a return?). -/
def rightR : Bool → List Int → List Int
  | _, [] => []
  | p, r :: t => if r = 10 ∧ p = true then rightR (decide (r = 13)) t else (if r = 13 then 10 else if r = 0 then 65533 else r) :: rightR (decide (r = 13)) t
def textL (rs : List Int) : List UInt8 := rs.flatMap encodeRune
def rightL (l : List UInt8) : List UInt8 := textL (rightR false (runesL l))
def isL (l : List UInt8) : Bool := validD l && (runesL l).all fun r => decide (r ≠ 0 ∧ r ≠ 13)
theorem byteN (z : Int) (h0 : 0 ≤ z) (h1 : z < 256) : (z.toNat.toUInt8).toNat = z.toNat := by
  have : z.toNat < 256 := by omega
  simp [Nat.toUInt8, UInt8.toNat_ofNat', Nat.mod_eq_of_lt this]
theorem decode_encode (r : Int) (t : List UInt8) : ∃ v : Nat, decodeL (encodeRune r ++ t) = (v, (encodeRune r).length) ∧ ¬ (v = 65533 ∧ (encodeRune r).length = 1) ∧ (r ≠ 0 → v ≠ 0) ∧ (r ≠ 13 → v ≠ 13) := by
  by_cases h1 : 0 ≤ r ∧ r ≤ 127
  · have e : encodeRune r = [r.toNat.toUInt8] := by rw [encodeRune, encodeRuneZ_one h1.1 h1.2]; rfl
    refine ⟨r.toNat, ?_, by rw [e]; simp <;> omega, by omega, by omega⟩
    rw [e, decodeL_N]
    simp only [List.cons_append, List.nil_append, List.getD_cons_zero, List.length_cons, List.length_nil]
    rw [byteN r h1.1 (by omega)]
    unfold decodeN
    rw [if_pos (by omega)]
  · by_cases h2 : 128 ≤ r ∧ r ≤ 2047
    · have e : encodeRune r = [(192 + r / 64).toNat.toUInt8, (128 + r % 64).toNat.toUInt8] := by rw [encodeRune, encodeRuneZ_two h2.1 h2.2]; rfl
      refine ⟨r.toNat, ?_, by rw [e]; simp <;> omega, by omega, by omega⟩
      rw [e, decodeL_N]
      simp only [List.cons_append, List.nil_append, List.getD_cons_zero, List.getD_cons_succ, List.length_cons, List.length_nil]
      rw [byteN (192 + r / 64) (by omega) (by omega), byteN (128 + r % 64) (by omega) (by omega)]
      unfold decodeN
      rw [if_neg (by omega), if_pos (by omega), if_pos (by omega)]
      exact Prod.ext (by simp only; omega) rfl
    · by_cases h3 : (2048 ≤ r ∧ r < 55296) ∨ (57343 < r ∧ r ≤ 65535)
      · have e : encodeRune r = [(224 + r / 4096).toNat.toUInt8, (128 + r / 64 % 64).toNat.toUInt8, (128 + r % 64).toNat.toUInt8] := by rw [encodeRune, encodeRuneZ_three h3]; rfl
        refine ⟨r.toNat, ?_, by rw [e]; simp <;> omega, by omega, by omega⟩
        rw [e, decodeL_N]
        simp only [List.cons_append, List.nil_append, List.getD_cons_zero, List.getD_cons_succ, List.length_cons, List.length_nil]
        rw [byteN (224 + r / 4096) (by omega) (by omega), byteN (128 + r / 64 % 64) (by omega) (by omega), byteN (128 + r % 64) (by omega) (by omega)]
        unfold decodeN
        rw [if_neg (by omega), if_neg (by omega), if_pos (by omega), if_pos (by omega)]
        exact Prod.ext (by simp only; omega) rfl
      · by_cases h4 : 65536 ≤ r ∧ r ≤ 1114111
        · have e : encodeRune r = [(240 + r / 262144).toNat.toUInt8, (128 + r / 4096 % 64).toNat.toUInt8, (128 + r / 64 % 64).toNat.toUInt8, (128 + r % 64).toNat.toUInt8] := by rw [encodeRune, encodeRuneZ_four h4.1 h4.2]; rfl
          refine ⟨r.toNat, ?_, by rw [e]; simp <;> omega, by omega, by omega⟩
          rw [e, decodeL_N]
          simp only [List.cons_append, List.nil_append, List.getD_cons_zero, List.getD_cons_succ, List.length_cons, List.length_nil]
          rw [byteN (240 + r / 262144) (by omega) (by omega), byteN (128 + r / 4096 % 64) (by omega) (by omega), byteN (128 + r / 64 % 64) (by omega) (by omega), byteN (128 + r % 64) (by omega) (by omega)]
          unfold decodeN
          rw [if_neg (by omega), if_neg (by omega), if_neg (by omega), if_pos (by omega), if_pos (by omega)]
          exact Prod.ext (by simp only; omega) rfl
        · have e : encodeRune r = [239, 191, 189] := by rw [encodeRune, encodeRuneZ_bad (by omega)]; rfl
          refine ⟨65533, ?_, by rw [e]; simp, fun _ => by decide, fun _ => by decide⟩
          rw [e, decodeL_N]
          simp only [List.cons_append, List.nil_append, List.getD_cons_zero, List.getD_cons_succ, List.length_cons, List.length_nil]
          unfold decodeN
          rw [if_neg (by decide), if_neg (by simp), if_pos (by refine ⟨by decide, ⟨by omega, by decide⟩, by omega, by decide⟩), if_pos (by decide)]
          rfl
theorem encodeRune_ne (r : Int) : encodeRune r ≠ [] := fun e => by
  have := (encodeRuneZ_length r).1
  have h : (encodeRune r).length = 0 := by rw [e]; rfl
  simp [encodeRune] at h
  rw [h] at this
  simp at this
theorem isL_text : ∀ rs : List Int, (∀ r ∈ rs, r ≠ 0 ∧ r ≠ 13) → isL (textL rs) = true
  | [], _ => rfl
  | r :: t, h => by
    have ih := isL_text t (fun x hx => h x (List.mem_cons_of_mem _ hx))
    obtain ⟨v, hd, hv, h0, h13⟩ := decode_encode r (textL t)
    have e : textL (r :: t) = encodeRune r ++ textL t := rfl
    have hne : encodeRune r ++ textL t ≠ [] := fun e => encodeRune_ne r (List.append_eq_nil_iff.1 e).1
    obtain ⟨hr0, hr13⟩ := h r (by simp)
    unfold isL at ih ⊢
    rw [Bool.and_eq_true] at ih ⊢
    rw [e, validD_step _ hne, runesL_step _ hne, hd]
    simp only [List.drop_left, if_neg hv, List.all_cons, Bool.and_eq_true, decide_eq_true_eq]
    exact ⟨ih.1, ⟨by have := h0 hr0; omega, by have := h13 hr13; omega⟩, ih.2⟩
theorem rightR_fine : ∀ (p : Bool) (rs : List Int), ∀ r ∈ rightR p rs, r ≠ 0 ∧ r ≠ 13
  | _, [], r, h => by cases h
  | p, a :: t, r, h => by
    unfold rightR at h
    split at h
    · exact rightR_fine _ t r h
    · rcases List.mem_cons.1 h with rfl | h
      · split
        · decide
        · split
          · decide
          · constructor <;> assumption
      · exact rightR_fine _ t r h
/-- WHAT IS MADE RIGHT IS RIGHT. -/
theorem isL_right (l : List UInt8) : isL (rightL l) = true := isL_text _ (rightR_fine _ _)
theorem rightR_same : ∀ (rs : List Int), (∀ r ∈ rs, r ≠ 0 ∧ r ≠ 13) → rightR false rs = rs
  | [], _ => rfl
  | a :: t, h => by
    obtain ⟨h0, h13⟩ := h a (by simp)
    unfold rightR
    rw [if_neg (by simp), if_neg h13, if_neg h0, decide_eq_false h13, rightR_same t (fun r hr => h r (List.mem_cons_of_mem _ hr))]
theorem text_runes : ∀ (n : Nat) (l : List UInt8), l.length = n → validD l = true → textL (runesL l) = l := by
  intro n
  induction n using Nat.strongRecOn with
  | _ n ih =>
    intro l hl hv
    by_cases hne : l = []
    · rw [hne]; rfl
    · have hw := decodeL_width l
      have hpos : 0 < l.length := List.length_pos_iff.2 hne
      rw [validD_step l hne] at hv
      split at hv
      · cases hv
      · rename_i hd
        rw [runesL_step l hne]
        show encodeRune _ ++ textL _ = l
        rw [encode_decode l hne hd, ih (l.drop (decodeL l).2).length (by rw [List.length_drop]; omega) _ rfl hv, List.take_append_drop]
theorem right_same (l : List UInt8) (h : isL l = true) : rightL l = l := by
  unfold isL at h
  rw [Bool.and_eq_true] at h
  unfold rightL
  rw [rightR_same _ (fun r hr => by simpa using List.all_eq_true.1 h.2 r hr), text_runes _ l rfl h.1]
/-- RIGHT IS WHAT IS MADE RIGHT AS ITSELF. -/
theorem isL_iff (l : List UInt8) : (rightL l == l) = isL l := by
  cases h : isL l with
  | true => rw [right_same l h]; simp
  | false =>
    refine beq_eq_false_iff_ne.2 (fun e => ?_)
    have := isL_right l
    rw [e, h] at this
    cases this
theorem rightR_length : ∀ (p : Bool) (rs : List Int), (rightR p rs).length ≤ rs.length
  | _, [] => Nat.le_refl _
  | p, a :: t => by
    unfold rightR
    split
    · exact Nat.le_succ_of_le (rightR_length _ t)
    · exact Nat.succ_le_succ (rightR_length _ t)
theorem runesG_length : ∀ (n : Nat) (l : List UInt8), (runesG n l).length ≤ n
  | 0, _ => Nat.le_refl _
  | n + 1, l => by
    unfold runesG
    split
    · exact Nat.zero_le _
    · exact Nat.succ_le_succ (runesG_length n _)
theorem runesL_length (l : List UInt8) : (runesL l).length ≤ l.length := runesG_length _ l
theorem textL_length : ∀ rs : List Int, (textL rs).length ≤ 4 * rs.length
  | [] => Nat.le_refl _
  | r :: t => by
    have h1 := textL_length t
    have h2 := (encodeRuneZ_length r).2
    show (encodeRune r ++ textL t).length ≤ _
    rw [List.length_append, List.length_cons]
    have h3 : (encodeRune r).length = (encodeRuneZ r).length := by simp [encodeRune]
    omega
theorem rightL_length (l : List UInt8) : (rightL l).length ≤ 4 * l.length :=
  Nat.le_trans (textL_length _) (Nat.mul_le_mul_left 4 (Nat.le_trans (rightR_length _ _) (runesL_length l)))
end
section
open Go.Lib Go.RowKit
def letterB (c : UInt8) : Bool := decide (97 ≤ c.toNat ∧ c.toNat ≤ 122)
def nameB (c : UInt8) : Bool := letterB c || decide (48 ≤ c.toNat ∧ c.toNat ≤ 57) || decide (c.toNat = 45)
/-- Is it an element's name? -/
def namedL : List UInt8 → Bool
  | [] => false
  | c :: t => letterB c && t.all nameB
theorem data_get (s : ByteArray) (k : Nat) (h : k < s.size) : s.data.toList[k]'(by simpa using h) = s[k] := rfl
end
section
open Go.Lib Go.RowKit
/-- May a byte stand in an attribute's name? -/
def attrB (c : UInt8) : Bool := !(decide (65 ≤ c.toNat ∧ c.toNat ≤ 90) || decide (c.toNat = 9) || decide (c.toNat = 10) || decide (c.toNat = 12) || decide (c.toNat = 32) || decide (c.toNat = 47) || decide (c.toNat = 62) || decide (c.toNat = 61))
def attrL (l : List UInt8) : Bool := l.all attrB && (!l.isEmpty && isL l)
end
section
open Go.Lib Go.RowKit Go.Maps
/-- Nodes side by side: a node, its kids, what stands behind it. -/
inductive Fo where
  | nil
  | node (kind : Int) (name : ByteArray) (attrs : List (ByteArray × ByteArray)) (text : ByteArray) (kids rest : Fo)
def Fo.len : Fo → Nat
  | .nil => 0
  | .node _ _ _ _ _ r => r.len + 1
/-- Attributes in memory. -/
def AttrsAt (w : World) (B : Nat) (v : Value) (al : List (ByteArray × ByteArray)) : Prop :=
  ∃ A cap, v = .slice A al.length cap ∧ al.length ≤ cap ∧ ∀ j (h : j < al.length), ∃ b o, A = some ⟨b, o, none⟩ ∧ b < B ∧ w.cell? ⟨b, o + j * 2, none⟩ = some (.string al[j].1) ∧ w.cell? ⟨b, o + j * 2 + 1, none⟩ = some (.string al[j].2)
theorem AttrsAt.below {w w' : World} {B : Nat} {v : Value} {al : List (ByteArray × ByteArray)} (h : AttrsAt w B v al) (hb : Below B w w') : AttrsAt w' B v al := by
  obtain ⟨A, cap, e, hc, h⟩ := h
  refine ⟨A, cap, e, hc, fun j hj => ?_⟩
  obtain ⟨b, o, e, hB, h1, h2⟩ := h j hj
  exact ⟨b, o, e, hB, (hb.cell (p := ⟨b, o + j * 2, none⟩) hB).trans h1, (hb.cell (p := ⟨b, o + j * 2 + 1, none⟩) hB).trans h2⟩
/-- Nodes side by side in memory, from a place on. -/
def RowAt (w : World) (B : Nat) : Nat → Nat → Fo → Prop
  | _, _, .nil => True
  | b, o, .node k nm al tx kids rest => b < B ∧ w.cell? ⟨b, o, none⟩ = some (.int .i64 k) ∧ w.cell? ⟨b, o + 1, none⟩ = some (.string nm) ∧ (∃ va, w.cell? ⟨b, o + 2, none⟩ = some va ∧ AttrsAt w B va al) ∧
      w.cell? ⟨b, o + 3, none⟩ = some (.string tx) ∧ (∃ A cap, w.cell? ⟨b, o + 4, none⟩ = some (.slice A kids.len cap) ∧ kids.len ≤ cap ∧ (0 < kids.len → ∃ b' o', A = some ⟨b', o', none⟩ ∧ RowAt w B b' o' kids)) ∧
      RowAt w B b (o + 5) rest
theorem RowAt.below {w w' : World} {B : Nat} (hb : Below B w w') : ∀ {f : Fo} {b o : Nat}, RowAt w B b o f → RowAt w' B b o f
  | .nil, _, _, _ => trivial
  | .node k nm al tx kids rest, b, o, ⟨hB, h0, h1, ⟨va, h2, h2'⟩, h3, ⟨A, cap, h4, hc, h4'⟩, h5⟩ =>
    ⟨hB, (hb.cell (p := ⟨b, o, none⟩) hB).trans h0, (hb.cell (p := ⟨b, o + 1, none⟩) hB).trans h1, ⟨va, (hb.cell (p := ⟨b, o + 2, none⟩) hB).trans h2, h2'.below hb⟩, (hb.cell (p := ⟨b, o + 3, none⟩) hB).trans h3,
      ⟨A, cap, (hb.cell (p := ⟨b, o + 4, none⟩) hB).trans h4, hc, fun hp => by obtain ⟨b', o', e, h⟩ := h4' hp; exact ⟨b', o', e, RowAt.below hb h⟩⟩, RowAt.below hb h5⟩
def AttrsOk (al : List (ByteArray × ByteArray)) : Prop := ∀ a ∈ al, a.1.size ≤ maxLen ∧ a.2.size ≤ maxLen
end
section
open Go.Lib Go.RowKit
def Fo.size : Fo → Nat
  | .nil => 0
  | .node _ _ _ _ kids rest => 1 + kids.size + rest.size
def Fo.height : Fo → Nat
  | .nil => 0
  | .node _ _ _ _ kids rest => max (kids.height + 1) rest.height
theorem Fo.len_size : ∀ f : Fo, f.len ≤ f.size
  | .nil => Nat.le_refl _
  | .node _ _ _ _ kids rest => by
    have := Fo.len_size rest
    rw [Fo.len, Fo.size]
    omega
/-- Is all of a size that can be handled? -/
def Fo.Ok : Fo → Prop
  | .nil => True
  | .node _ nm al tx kids rest => nm.size ≤ maxLen ∧ AttrsOk al ∧ al.length ≤ 1000000 ∧ tx.size ≤ maxLen ∧ kids.Ok ∧ rest.Ok
/-- The nodes from the i-th on; the flag ahead of it. -/
def Fo.drop : Bool → Fo → Nat → Bool × Fo
  | p, f, 0 => (p, f)
  | p, .nil, _ + 1 => (p, .nil)
  | _, .node k _ _ _ _ rest, i + 1 => Fo.drop (decide (k = 2)) rest i
theorem Fo.drop_zero (p : Bool) (f : Fo) : Fo.drop p f 0 = (p, f) := by cases f <;> rfl
theorem Fo.drop_succ (p : Bool) (k : Int) (nm : ByteArray) (al : List (ByteArray × ByteArray)) (tx : ByteArray) (kids rest : Fo) (i : Nat) : Fo.drop p (.node k nm al tx kids rest) (i + 1) = Fo.drop (decide (k = 2)) rest i := rfl
theorem Fo.drop_node {p : Bool} {k : Int} {nm : ByteArray} {al : List (ByteArray × ByteArray)} {tx : ByteArray} {kids rest : Fo} : ∀ {f : Fo} {i : Nat} {q : Bool}, Fo.drop q f i = (p, .node k nm al tx kids rest) → Fo.drop q f (i + 1) = (decide (k = 2), rest)
  | .nil, 0, q, h => by cases h
  | .node .., 0, q, h => by cases h; rw [Fo.drop_succ, Fo.drop_zero]
  | .nil, i + 1, q, h => by cases h
  | .node k' _ _ _ _ rest', i + 1, q, h => Fo.drop_node (f := rest') (i := i) h
theorem Fo.drop_len : ∀ (f : Fo) (i : Nat) (q : Bool), (Fo.drop q f i).2.len = f.len - i
  | f, 0, q => by simp [Fo.drop]
  | .nil, i + 1, q => by simp [Fo.drop, Fo.len]
  | .node k _ _ _ _ rest, i + 1, q => by rw [Fo.drop, Fo.drop_len rest i, Fo.len]; omega
theorem RowAt.drop {w : World} {B b : Nat} : ∀ {f : Fo} {o : Nat} (i : Nat) (q : Bool), RowAt w B b o f → RowAt w B b (o + i * 5) (Fo.drop q f i).2
  | f, o, 0, q, h => by simpa [Fo.drop] using h
  | .nil, o, i + 1, q, h => trivial
  | .node k _ _ _ _ rest, o, i + 1, q, h => by
    rw [Fo.drop, show o + (i + 1) * 5 = o + 5 + i * 5 by omega]
    exact RowAt.drop i _ h.2.2.2.2.2.2
theorem Fo.Ok.drop : ∀ {f : Fo} (i : Nat) (q : Bool), f.Ok → (Fo.drop q f i).2.Ok
  | f, 0, q, h => by rw [Fo.drop_zero]; exact h
  | .nil, i + 1, q, h => trivial
  | .node k _ _ _ _ rest, i + 1, q, h => Fo.Ok.drop (f := rest) i _ h.2.2.2.2.2
end
section
open Go.ChangeShapes Go.WideShapes Go.ChangeAt Go.RowKit Go.Lib Go.Deep
section
variable {H : Type} {enc : TypeId × Value → H}
theorem elem_fields {P : Program} {w : World} {base : Nat} {spare : Nat → Bool} {held : Bool} {e : TypeId} {fs : Array Field} {n : Nat} {a : Addr} {y : DataW H × List MemPlace} (he : P.underlying e = some (.struct fs)) (hone : oneCellFields P fs = true) (hC : P.cellsOf e = fs.size)
    (h : (w.cells? base a (P.cellsOf e)).bind (DataW.trod enc P w base spare held n e) = some y) :
    ∃ n', n = n' + 1 ∧ ∀ (j : Nat) (f : Field), fs[j]? = some f → ∃ (v : Value) (z : DataW H × List MemPlace), w.cell? (a.add j) = some v ∧ DataW.trod enc P w base spare held n' f.type [v] = some z := by
  obtain ⟨cs', hc, ht'⟩ := Option.bind_eq_some_iff.1 h
  rw [hC] at hc
  obtain ⟨ys, n', hn', hy, hlen, hyl, hf⟩ := DataW.trod_struct he ht'
  obtain ⟨_, hcl, hat⟩ := World.cells?_some hc
  refine ⟨n', hn', fun j f hj => ?_⟩
  obtain ⟨ho, hk⟩ := hone_of hone j f hj
  have hjl : j < fs.size := (Array.getElem?_eq_some_iff.1 hj).1
  have hcell := hat j hjl
  have hv : cs'[j]? = some (cs'[j]'(by omega)) := List.getElem?_eq_getElem (by omega)
  have h1 := hf j f hj
  rw [ho, hk] at h1
  have hone' : (cs'.drop j).take 1 = [cs'[j]'(by omega)] := by
    rw [List.drop_eq_getElem_cons (by omega)]
    rfl
  rw [hone'] at h1
  have hys : ys[j]? = some (ys[j]'(by omega)) := List.getElem?_eq_getElem (by omega)
  exact ⟨_, _, by rw [hcell, hv], h1.trans hys⟩
theorem spot_none {w : World} {a : Addr} {v : Value} (h : w.cell? (a.add 0) = some v) : a = ⟨a.block, a.off, none⟩ ∧ a.block < w.heap.size := by
  obtain ⟨b, o, spot⟩ := a
  simp only [Addr.add, if_true] at h
  refine ⟨?_, ?_⟩
  · cases spot with
    | none => rfl
    | some x =>
      exfalso
      simp only [World.cell?] at h
      split at h <;> simp at h
  · rcases Nat.lt_or_ge b w.heap.size with h' | h'
    · exact h'
    · simp [World.cell?, Array.getElem?_eq_none h'] at h
theorem add_at (b o j : Nat) : (⟨b, o, none⟩ : Addr).add j = ⟨b, o + j, none⟩ := by unfold Addr.add; split <;> simp_all
theorem open_attrs {W : World} {fuel : Nat} {v : Value} {x : DataW H × List MemPlace} (h : DataW.trod enc Tryz.prog W 0 (fun _ => true) true fuel 42 [v] = some x) :
    ∃ al : List (ByteArray × ByteArray), AttrsAt W W.heap.size v al ∧ AttrsOk al ∧ al.length ≤ maxLen := by
  rcases DataW.trod_slice Tryz.underlying42 h with ⟨hcs, _⟩ | ⟨a, len, cap, elems, rest, n, _, hcs, _, _, hl, hm, hlen, hel, _, _⟩
  · simp only [List.cons.injEq, and_true] at hcs
    exact ⟨[], ⟨none, 0, hcs, Nat.le_refl _, fun j hj => absurd hj (Nat.not_lt_zero _)⟩, fun a ha => absurd ha (by simp), Nat.zero_le _⟩
  · simp only [List.cons.injEq, and_true] at hcs
    have key : ∀ i, ∃ p : ByteArray × ByteArray, i < len → p.1.size ≤ maxLen ∧ p.2.size ≤ maxLen ∧ ∃ b o, a = ⟨b, o, none⟩ ∧ b < W.heap.size ∧ W.cell? ⟨b, o + i * 2, none⟩ = some (.string p.1) ∧ W.cell? ⟨b, o + i * 2 + 1, none⟩ = some (.string p.2) := by
      intro i
      by_cases hi : i < len
      · have hsome : ∀ i, i < len → ∃ y, elems[i]? = some y := fun i hi => ⟨_, List.getElem?_eq_getElem (by omega)⟩
        have hC : Tryz.prog.cellsOf 100 = 2 := by kernel_rfl
        obtain ⟨y0, hy0⟩ := hsome 0 (by omega)
        obtain ⟨_, _, hf0⟩ := elem_fields Tryz.underlying100 (by kernel_rfl) (by kernel_rfl) ((hel 0 (by omega)).trans hy0)
        obtain ⟨v0, _, hv0, _⟩ := hf0 0 _ rfl
        rw [Nat.zero_mul, show (a.add 0).add 0 = a.add 0 by simp [Addr.add]] at hv0
        obtain ⟨ha, hab⟩ := spot_none hv0
        obtain ⟨y, hy⟩ := hsome i hi
        obtain ⟨n', _, hf⟩ := elem_fields Tryz.underlying100 (by kernel_rfl) (by kernel_rfl) ((hel i hi).trans hy)
        rw [hC, ha, add_at] at hf
        obtain ⟨u0, z0, c0, t0⟩ := hf 0 _ rfl
        obtain ⟨u1, z1, c1, t1⟩ := hf 1 _ rfl
        obtain ⟨s0, e0, _, w0⟩ := DataW.trod_string Tryz.underlying9 t0
        obtain ⟨s1, e1, _, w1⟩ := DataW.trod_string Tryz.underlying9 t1
        simp only [List.cons.injEq, and_true] at e0 e1
        subst e0 e1
        rw [add_at] at c0 c1
        exact ⟨(s0, s1), fun _ => ⟨w0, w1, _, _, ha, hab, c0, c1⟩⟩
      · exact ⟨(default, default), fun h => absurd h hi⟩
    obtain ⟨p, hp⟩ := Classical.axiomOfChoice key
    refine ⟨(List.range len).map p, ⟨some a, cap, by rw [List.length_map, List.length_range]; exact hcs, by simpa using hl, fun j hj => ?_⟩, fun q hq => ?_, by simpa using Nat.le_trans hl hm⟩
    · simp only [List.length_map, List.length_range] at hj
      obtain ⟨_, _, b, o, ha, hb, h1, h2⟩ := hp j hj
      exact ⟨b, o, by rw [ha], hb, by simpa using h1, by simpa using h2⟩
    · obtain ⟨j, hj, rfl⟩ := List.mem_map.1 hq
      obtain ⟨h1, h2, _⟩ := hp j (List.mem_range.1 hj)
      exact ⟨h1, h2⟩
end
end
section
open Go.ChangeShapes Go.WideShapes Go.ChangeAt Go.RowKit Go.Lib Go.Deep
/-- Is all of a size that memory can hold? -/
def Fo.In : Fo → Prop
  | .nil => True
  | .node _ nm al tx kids rest => nm.size ≤ maxLen ∧ AttrsOk al ∧ al.length ≤ maxLen ∧ tx.size ≤ maxLen ∧ kids.len ≤ maxLen ∧ kids.In ∧ rest.In
section
variable {H : Type} {enc : TypeId × Value → H}
theorem open_nodes {W : World} : ∀ (fuel : Nat) (v : Value) (x : DataW H × List MemPlace), DataW.trod enc Tryz.prog W 0 (fun _ => true) true fuel 40 [v] = some x →
    ∃ (A : Option Addr) (cap : Nat) (f : Fo), v = .slice A f.len cap ∧ f.len ≤ cap ∧ cap ≤ maxLen ∧ f.In ∧ (0 < f.len → ∃ b o, A = some ⟨b, o, none⟩ ∧ b < W.heap.size ∧ RowAt W W.heap.size b o f) := by
  intro fuel
  induction fuel using Nat.strongRecOn with
  | _ fuel ih =>
  intro v x h
  rcases DataW.trod_slice Tryz.underlying40 h with ⟨hcs, _⟩ | ⟨a, len, cap, elems, rest, n, hn, hcs, _, _, hl, hm, hlen, hel, _, _⟩
  · simp only [List.cons.injEq, and_true] at hcs
    exact ⟨none, 0, .nil, hcs, Nat.le_refl _, Nat.zero_le _, trivial, fun j => absurd j (Nat.lt_irrefl _)⟩
  · simp only [List.cons.injEq, and_true] at hcs
    by_cases h0 : len = 0
    · subst h0
      exact ⟨some a, cap, .nil, hcs, hl, hm, trivial, fun j => absurd j (Nat.lt_irrefl _)⟩
    · have hsome : ∀ i, i < len → ∃ y, elems[i]? = some y := fun i hi => ⟨_, List.getElem?_eq_getElem (by omega)⟩
      have hC : Tryz.prog.cellsOf 44 = 5 := by kernel_rfl
      have hone : oneCellFields Tryz.prog #[{ name := "Kind", type := 3, offset := 0, embedded := false, tag := "", pkgPath := "", byteOffset := 0 },
        { name := "Name", type := 9, offset := 1, embedded := false, tag := "", pkgPath := "", byteOffset := 8 },
        { name := "Attrs", type := 42, offset := 2, embedded := false, tag := "", pkgPath := "", byteOffset := 24 },
        { name := "Text", type := 9, offset := 3, embedded := false, tag := "", pkgPath := "", byteOffset := 48 },
        { name := "Kids", type := 40, offset := 4, embedded := false, tag := "", pkgPath := "", byteOffset := 64 }] = true := by kernel_rfl
      obtain ⟨y0, hy0⟩ := hsome 0 (by omega)
      obtain ⟨_, _, hf0⟩ := elem_fields Tryz.underlying44 hone (by kernel_rfl) ((hel 0 (by omega)).trans hy0)
      obtain ⟨v0, _, hv0, _⟩ := hf0 0 _ rfl
      rw [Nat.zero_mul, show (a.add 0).add 0 = a.add 0 by simp [Addr.add]] at hv0
      obtain ⟨ha, hab⟩ := spot_none hv0
      obtain ⟨b, hb⟩ : ∃ b, a.block = b := ⟨_, rfl⟩
      obtain ⟨o, ho⟩ : ∃ o, a.off = o := ⟨_, rfl⟩
      rw [hb, ho] at ha
      rw [hb] at hab
      subst ha
      have rows : ∀ k i, i + k = len → ∃ f : Fo, f.len = k ∧ f.In ∧ RowAt W W.heap.size b (o + i * 5) f := by
        intro k
        induction k with
        | zero => exact fun i _ => ⟨.nil, rfl, trivial, trivial⟩
        | succ k ihk =>
          intro i hik
          obtain ⟨fr, hfr, hfrI, hfrR⟩ := ihk (i + 1) (by omega)
          obtain ⟨y, hy⟩ := hsome i (by omega)
          obtain ⟨n', hn', hf⟩ := elem_fields Tryz.underlying44 hone (by kernel_rfl) ((hel i (by omega)).trans hy)
          rw [hC, add_at] at hf
          obtain ⟨u0, z0, c0, t0⟩ := hf 0 _ rfl
          obtain ⟨u1, z1, c1, t1⟩ := hf 1 _ rfl
          obtain ⟨u2, z2, c2, t2⟩ := hf 2 _ rfl
          obtain ⟨u3, z3, c3, t3⟩ := hf 3 _ rfl
          obtain ⟨u4, z4, c4, t4⟩ := hf 4 _ rfl
          obtain ⟨kd, e0, _, _⟩ := DataW.trod_int Tryz.underlying3 t0
          obtain ⟨nm, e1, _, w1⟩ := DataW.trod_string Tryz.underlying9 t1
          obtain ⟨al, hal, halo, hall⟩ := open_attrs t2
          obtain ⟨tx, e3, _, w3⟩ := DataW.trod_string Tryz.underlying9 t3
          obtain ⟨A4, cap4, f4, e4, hc4, hm4, hI4, hR4⟩ := ih n' (by omega) u4 z4 t4
          simp only [List.cons.injEq, and_true] at e0 e1 e3
          subst e0 e1 e3 e4
          rw [add_at] at c0 c1 c2 c3 c4
          refine ⟨.node kd nm al tx f4 fr, by rw [Fo.len, hfr], ⟨w1, halo, hall, w3, Nat.le_trans hc4 hm4, hI4, hfrI⟩, hab, c0, c1, ⟨_, c2, hal⟩, c3, ⟨_, _, c4, hc4, fun hp => ?_⟩, ?_⟩
          · obtain ⟨b', o', e, _, hr⟩ := hR4 hp
            exact ⟨b', o', e, hr⟩
          · rw [show o + i * 5 + 5 = o + (i + 1) * 5 by omega]
            exact hfrR
      obtain ⟨f, hfl, hfI, hfR⟩ := rows len 0 (by omega)
      rw [Nat.zero_mul, Nat.add_zero] at hfR
      exact ⟨_, cap, f, by rw [hfl]; exact hcs, by omega, hm, hfI, fun _ => ⟨b, o, rfl, hab, hfR⟩⟩
end
end
section
open Go.RowKit
theorem blk_cell {w : World} {g : Nat} {cs : Array Value} {t : TypeId} (h : w.heap[g]? = some (.cells cs t (0, 0))) (i : Nat) : w.cell? ⟨g, i, none⟩ = cs[i]? := by simp [World.cell?, h]
theorem blk_lt {w : World} {g : Nat} {o : Obj} (h : w.heap[g]? = some o) : g < w.heap.size := (Array.getElem?_eq_some_iff.1 h).1
theorem blk_alloc {w : World} {g : Nat} {o : Obj} (h : w.heap[g]? = some o) (o' : Obj) : (w.alloc o').heap[g]? = some o := (Below.heap_alloc w o' g (blk_lt h)).trans h
theorem blk_new (w : World) (o : Obj) : (w.alloc o).heap[w.heap.size]? = some o := (heap_alloc_new w o)
theorem blk_below {B : Nat} {w w' : World} {g : Nat} {o : Obj} (h : w.heap[g]? = some o) (hb : Below B w w') (hg : g < B) : w'.heap[g]? = some o := (hb.block g hg).trans h
theorem blk_set {w : World} {g : Nat} {o : Obj} (h : w.heap[g]? = some o) {p : Addr} (hp : g ≠ p.block) (u : Value) : (w.setCell p u).heap[g]? = some o := (Below.heap_setCell w p u g hp).trans h
theorem blk_grown {w w' : World} {g : Nat} {o : Obj} {row : Option Nat} (h : w.heap[g]? = some o) (hg : w.grownBy w' row) (hne : row ≠ some g) : w'.heap[g]? = some o := (hg.block g (blk_lt h) (Ne.symm hne)).trans h
theorem blk_set_self {w : World} {g : Nat} {cs : Array Value} {t : TypeId} (h : w.heap[g]? = some (.cells cs t (0, 0))) (i : Nat) (u : Value) : (w.setCell ⟨g, i, none⟩ u).heap[g]? = some (.cells (cs.setIfInBounds i u) t (0, 0)) := by
  simp [World.setCell, Array.getElem?_modify, h]
theorem blk_frozen {w : World} {g : Nat} {cs : Array Value} {t : TypeId} (h : w.heap[g]? = some (.cells cs t (0, 0))) (i : Nat) : w.frozen? ⟨g, i, none⟩ = false := by simp [World.frozen?, h]
end
section
open Go.Lib Go.RowKit
def ARow (w : World) (P : Nat → Prop) (v : Value) (al : List (ByteArray × ByteArray)) : Prop :=
  ∃ A cap, v = .slice A al.length cap ∧ al.length ≤ cap ∧ ∀ j (h : j < al.length), ∃ b o, A = some ⟨b, o, none⟩ ∧ P b ∧ w.cell? ⟨b, o + j * 2, none⟩ = some (.string al[j].1) ∧ w.cell? ⟨b, o + j * 2 + 1, none⟩ = some (.string al[j].2)
def NRow (w : World) (P : Nat → Prop) : Nat → Nat → Fo → Prop
  | _, _, .nil => True
  | b, o, .node k nm al tx kids rest => P b ∧ w.cell? ⟨b, o, none⟩ = some (.int .i64 k) ∧ w.cell? ⟨b, o + 1, none⟩ = some (.string nm) ∧ (∃ va, w.cell? ⟨b, o + 2, none⟩ = some va ∧ ARow w P va al) ∧
      w.cell? ⟨b, o + 3, none⟩ = some (.string tx) ∧ (∃ A cap, w.cell? ⟨b, o + 4, none⟩ = some (.slice A kids.len cap) ∧ kids.len ≤ cap ∧ (0 < kids.len → ∃ b' o', A = some ⟨b', o', none⟩ ∧ NRow w P b' o' kids)) ∧
      NRow w P b (o + 5) rest
/-- Blocks of a predicate stay as they are. -/
def Stays (P : Nat → Prop) (w w' : World) : Prop := ∀ k, P k → w'.heap[k]? = w.heap[k]?
theorem Stays.cell {P : Nat → Prop} {w w' : World} (h : Stays P w w') {a : Addr} (ha : P a.block) : w'.cell? a = w.cell? a := World.cell?_of_block (w := w) (h a.block ha)
theorem ARow.move {w w' : World} {P Q : Nat → Prop} {v : Value} {al : List (ByteArray × ByteArray)} (h : ARow w P v al) (hs : Stays P w w') (hq : ∀ k, P k → Q k) : ARow w' Q v al := by
  obtain ⟨A, cap, e, hc, h⟩ := h
  refine ⟨A, cap, e, hc, fun j hj => ?_⟩
  obtain ⟨b, o, e, hB, h1, h2⟩ := h j hj
  exact ⟨b, o, e, hq b hB, (hs.cell (a := ⟨b, o + j * 2, none⟩) hB).trans h1, (hs.cell (a := ⟨b, o + j * 2 + 1, none⟩) hB).trans h2⟩
theorem NRow.move {w w' : World} {P Q : Nat → Prop} (hs : Stays P w w') (hq : ∀ k, P k → Q k) : ∀ {f : Fo} {b o : Nat}, NRow w P b o f → NRow w' Q b o f
  | .nil, _, _, _ => trivial
  | .node k nm al tx kids rest, b, o, ⟨hB, h0, h1, ⟨va, h2, h2'⟩, h3, ⟨A, cap, h4, hc, h4'⟩, h5⟩ =>
    ⟨hq b hB, (hs.cell (a := ⟨b, o, none⟩) hB).trans h0, (hs.cell (a := ⟨b, o + 1, none⟩) hB).trans h1, ⟨va, (hs.cell (a := ⟨b, o + 2, none⟩) hB).trans h2, h2'.move hs hq⟩, (hs.cell (a := ⟨b, o + 3, none⟩) hB).trans h3,
      ⟨A, cap, (hs.cell (a := ⟨b, o + 4, none⟩) hB).trans h4, hc, fun hp => by obtain ⟨b', o', e, h⟩ := h4' hp; exact ⟨b', o', e, NRow.move hs hq h⟩⟩, NRow.move hs hq h5⟩
theorem ARow.at_ {w : World} {P : Nat → Prop} {B : Nat} (hP : ∀ k, P k → k < B) {v : Value} {al : List (ByteArray × ByteArray)} (h : ARow w P v al) : AttrsAt w B v al := by
  obtain ⟨A, cap, e, hc, h⟩ := h
  refine ⟨A, cap, e, hc, fun j hj => ?_⟩
  obtain ⟨b, o, e, hB, h1, h2⟩ := h j hj
  exact ⟨b, o, e, hP b hB, h1, h2⟩
theorem NRow.at_ {w : World} {P : Nat → Prop} {B : Nat} (hP : ∀ k, P k → k < B) : ∀ {f : Fo} {b o : Nat}, NRow w P b o f → RowAt w B b o f
  | .nil, _, _, _ => trivial
  | .node k nm al tx kids rest, b, o, ⟨hB, h0, h1, ⟨va, h2, h2'⟩, h3, ⟨A, cap, h4, hc, h4'⟩, h5⟩ =>
    ⟨hP b hB, h0, h1, ⟨va, h2, h2'.at_ hP⟩, h3, ⟨A, cap, h4, hc, fun hp => by obtain ⟨b', o', e, h⟩ := h4' hp; exact ⟨b', o', e, NRow.at_ hP h⟩⟩, NRow.at_ hP h5⟩
/-- What stands in a node's cells: the five, and what its slices point to. -/
structure NCells where
  kind : Int
  name : ByteArray
  attrs : List (ByteArray × ByteArray)
  text : ByteArray
  kids : Fo
  va : Value
  vk : Value
def NCells.list (c : NCells) : List Value := [.int .i64 c.kind, .string c.name, c.va, .string c.text, c.vk]
/-- What a node's slices point to, in memory. -/
def NCells.Fine (w : World) (P : Nat → Prop) (c : NCells) : Prop := ARow w P c.va c.attrs ∧ ∃ A cap, c.vk = .slice A c.kids.len cap ∧ c.kids.len ≤ cap ∧ (0 < c.kids.len → ∃ b o, A = some ⟨b, o, none⟩ ∧ NRow w P b o c.kids)
theorem NCells.Fine.move {w w' : World} {P Q : Nat → Prop} {c : NCells} (h : c.Fine w P) (hs : Stays P w w') (hq : ∀ k, P k → Q k) : c.Fine w' Q := by
  obtain ⟨h1, A, cap, e, hc, h2⟩ := h
  exact ⟨h1.move hs hq, A, cap, e, hc, fun hp => by obtain ⟨b, o, e, h⟩ := h2 hp; exact ⟨b, o, e, h.move hs hq⟩⟩
def nCells (l : List NCells) : List Value := l.flatMap NCells.list
def nFo : List NCells → Fo
  | [] => .nil
  | c :: r => .node c.kind c.name c.attrs c.text c.kids (nFo r)
theorem nFo_len : ∀ l : List NCells, (nFo l).len = l.length
  | [] => rfl
  | c :: r => by rw [nFo, Fo.len, nFo_len r, List.length_cons]
theorem nCells_length : ∀ l : List NCells, (nCells l).length = l.length * 5
  | [] => rfl
  | c :: r => by
    have := nCells_length r
    simp only [nCells, List.flatMap_cons, List.length_append, NCells.list, List.length_cons, List.length_nil] at this ⊢
    omega
theorem nRow_of {w : World} {P Q : Nat → Prop} {b : Nat} (hb : Q b) (hq : ∀ k, P k → Q k) : ∀ (l : List NCells) (o : Nat), (∀ c ∈ l, c.Fine w P) → (∀ j, j < l.length * 5 → w.cell? ⟨b, o + j, none⟩ = (nCells l)[j]?) → NRow w Q b o (nFo l)
  | [], _, _, _ => trivial
  | c :: r, o, hf, hc => by
    have e : nCells (c :: r) = c.list ++ nCells r := rfl
    have hl : c.list.length = 5 := rfl
    have g : ∀ j, j < 5 → w.cell? ⟨b, o + j, none⟩ = c.list[j]? := fun j hj => by
      rw [hc j (by rw [List.length_cons]; omega), e, List.getElem?_append_left (by omega)]
    obtain ⟨h1, A, cap, ek, hck, h2⟩ := (hf c (by simp)).move (w' := w) (fun _ _ => rfl) hq
    refine ⟨hb, g 0 (by decide), g 1 (by decide), ⟨_, g 2 (by decide), h1⟩, g 3 (by decide), ⟨A, cap, by rw [g 4 (by decide)]; simp [NCells.list, ek], hck, h2⟩, nRow_of hb hq r (o + 5) (fun d hd => hf d (by simp [hd])) (fun j hj => ?_)⟩
    have := hc (5 + j) (by rw [List.length_cons]; omega)
    rw [e, List.getElem?_append_right (by omega), hl, show o + (5 + j) = o + 5 + j by omega] at this
    rw [this]
    congr 1
    omega
end
end Go.Proofs.YtghlodpbbghcoaaGreatDoor.Nd

/- Right of package strainerref01: walked. -/
namespace Go.Proofs.YtghlodpbbghcoaaGreatDoor.Nd
section
open Go.Lib Go.RowKit
def headN (c : Nat) : Option (Nat × Nat × Nat) :=
  if 192 ≤ c ∧ c < 224 then some (2, c - 192, 128) else if 224 ≤ c ∧ c < 240 then some (3, c - 224, 2048) else if 240 ≤ c ∧ c < 248 then some (4, c - 240, 65536) else none
def contN (l : List UInt8) : Nat → Nat → Nat → Option Nat
  | 0, _, v => some v
  | m + 1, k, v => if (l.getD k 0).toNat / 64 = 2 then contN l m (k + 1) (64 * v + (l.getD k 0).toNat - 128) else none
def oneN (l : List UInt8) : Nat × Nat :=
  if (l.getD 0 0).toNat < 128 then ((l.getD 0 0).toNat, 1)
  else match headN (l.getD 0 0).toNat with
    | none => (65533, 1)
    | some (n, v, least) => if l.length < n then (65533, 1) else
      match contN l (n - 1) 1 v with
      | none => (65533, 1)
      | some v => if v < least ∨ v > 1114111 ∨ (55296 ≤ v ∧ v ≤ 57343) then (65533, 1) else (v, n)
theorem oneN_eq (l : List UInt8) : oneN l = decodeL l := by
  rw [decodeL_N]
  have k0 := (l.getD 0 0).toNat_lt
  have k1 := (l.getD 1 0).toNat_lt
  have k2 := (l.getD 2 0).toNat_lt
  have k3 := (l.getD 3 0).toNat_lt
  unfold oneN headN decodeN
  generalize (l.getD 0 0).toNat = b0 at *
  by_cases h : b0 < 128
  · rw [if_pos h, if_pos h]
  · rw [if_neg h, if_neg h]
    by_cases h2 : 192 ≤ b0 ∧ b0 < 224
    · rw [if_pos h2]
      simp only [contN]
      generalize (l.getD 1 0).toNat = b1 at *
      repeat' split
      all_goals simp_all
      all_goals omega
    · rw [if_neg h2]
      by_cases h3 : 224 ≤ b0 ∧ b0 < 240
      · rw [if_pos h3]
        simp only [contN]
        generalize (l.getD 1 0).toNat = b1 at *
        generalize (l.getD 2 0).toNat = b2 at *
        repeat' split
        all_goals simp_all
        all_goals omega
      · rw [if_neg h3]
        by_cases h4 : 240 ≤ b0 ∧ b0 < 248
        · rw [if_pos h4]
          simp only [contN]
          generalize (l.getD 1 0).toNat = b1 at *
          generalize (l.getD 2 0).toNat = b2 at *
          generalize (l.getD 3 0).toNat = b3 at *
          repeat' split
          all_goals simp_all
          all_goals omega
        · rw [if_neg h4]
          simp only []
          repeat' split
          all_goals simp_all
          all_goals omega
end
section
open Go.Lib Go.RowKit
/-- Bytes that lie in memory. -/
def BytesAt (w : World) (b o : Nat) (l : List UInt8) : Prop := ∀ j, j < l.length → w.cell? ⟨b, o + j, none⟩ = some (.int .u8 ((l.getD j 0).toNat : Nat))
set_option maxRecDepth 8192 in
set_option maxHeartbeats 800000 in
theorem follows_any (x : UInt8) (w : World) :
    Calls Tryz.prog 118 #[.int .u8 (x.toNat : Nat)] w fun e w' => e = .returned (.bool (decide (x.toNat / 64 = 2))) ∧ w' = w := by
  have hx := x.toNat_lt
  generalize x.toNat = c at *
  obtain ⟨r, hr⟩ : ∃ r, decide (c / 64 = 2) = r := ⟨_, rfl⟩
  rw [hr]
  by_cases h1 : 128 ≤ c
  · by_cases h2 : c < 192
    · have e : r = true := by rw [← hr]; exact decide_eq_true (by omega)
      subst e
      clear hr
      have h2' : decide ((c : Int) < 192) = _ := decide_eq_true (by omega)
      go_enter Tryz.func118, Tryz.ntmps118
      go_wp2
      go_ret
      exact ⟨rfl, rfl⟩
    · have e : r = false := by rw [← hr]; exact decide_eq_false (by omega)
      subst e
      clear hr
      have h2' : decide ((c : Int) < 192) = _ := decide_eq_false (by omega)
      go_enter Tryz.func118, Tryz.ntmps118
      go_wp2
      go_ret
      exact ⟨rfl, rfl⟩
  · have e : r = false := by rw [← hr]; exact decide_eq_false (by omega)
    subst e
    clear hr
    go_enter Tryz.func118, Tryz.ntmps118
    go_wp2
    go_ret
    exact ⟨rfl, rfl⟩
def tailN (l : List UInt8) (n v least : Nat) : Nat × Nat :=
  if l.length < n then (65533, 1) else
    match contN l (n - 1) 1 v with
    | none => (65533, 1)
    | some v => if v < least ∨ v > 1114111 ∨ (55296 ≤ v ∧ v ≤ 57343) then (65533, 1) else (v, n)
set_option maxRecDepth 8192 in
set_option maxHeartbeats 3200000 in
theorem one_any (b o cap : Nat) (l : List UInt8) (hl : l ≠ []) (hbig : l.length ≤ 1000000000) (w : World) (hb : BytesAt w b o l) :
    Calls Tryz.prog 110 #[.slice (some ⟨b, o, none⟩) l.length cap] w fun e w' => e = .returned (.tuple #[.int .i32 ((oneN l).1 : Nat), .int .i64 ((oneN l).2 : Nat)]) ∧ w' = w := by
  have hpos : 0 < l.length := List.length_pos_iff.2 hl
  obtain ⟨N, hN⟩ : ∃ N, l.length = N := ⟨_, rfl⟩
  obtain ⟨c, hc⟩ : ∃ c, (l.getD 0 0).toNat = c := ⟨_, rfl⟩
  have hcl : c < 256 := by rw [← hc]; exact (l.getD 0 0).toNat_lt
  have h0 : w.cell? ⟨b, o, none⟩ = some (.int .u8 (c : Nat)) := by rw [← hc]; exact hb 0 hpos
  obtain ⟨res, hres⟩ : ∃ res, oneN l = res := ⟨_, rfl⟩
  rw [hres, hN]
  rw [hN] at hpos hbig
  replace hN := Lib.hid hN
  replace hc := Lib.hid hc
  replace hb := Lib.hid hb
  clear hl
  by_cases h1 : c < 128
  · have e : res = (c, 1) := by rw [← hres, oneN, hc.out, if_pos h1]
    subst e
    clear hres
    go_enter Tryz.func110, Tryz.ntmps110
    go_wp2
    go_ret2
    exact ⟨rfl, rfl⟩
  · cases hh : headN c with
    | none =>
      have e : res = (65533, 1) := by rw [← hres, oneN, hc.out, if_neg h1, hh]
      subst e
      clear hres
      have hb1 : ¬ (192 ≤ c ∧ c < 224) := fun h => by rw [headN, if_pos h] at hh; cases hh
      have hb2 : ¬ (224 ≤ c ∧ c < 240) := fun h => by rw [headN, if_neg hb1, if_pos h] at hh; cases hh
      have hb3 : ¬ (240 ≤ c ∧ c < 248) := fun h => by rw [headN, if_neg hb1, if_neg hb2, if_pos h] at hh; cases hh
      clear hh
      go_enter Tryz.func110, Tryz.ntmps110
      by_cases q1 : 192 ≤ c
      · have q2 : 248 ≤ c := by omega
        have q3 : 224 ≤ c := by omega
        have q4 : 240 ≤ c := by omega
        have q5 : ¬ c < 224 := by omega
        have q6 : ¬ c < 240 := by omega
        have q7 : ¬ c < 248 := by omega
        go_wp2
        go_ret2
        exact ⟨rfl, rfl⟩
      · have q3 : ¬ 224 ≤ c := by omega
        have q4 : ¬ 240 ≤ c := by omega
        go_wp2
        go_ret2
        exact ⟨rfl, rfl⟩
    | some q =>
      obtain ⟨n, v, least⟩ := q
      have hq : n ≤ 4 ∧ 2 ≤ n ∧ v < 32 ∧ least ≤ 65536 ∧ 192 ≤ c ∧ c < 248 := by
        unfold headN at hh
        repeat' split at hh
        all_goals cases hh
        all_goals omega
      obtain ⟨hn4, hn2, hv32, hle, hc192, hc248⟩ := hq
      have hres2 : Hid (res = tailN l n v least) := Lib.hid (by rw [← hres, oneN, hc.out, if_neg h1, hh]; rfl)
      clear hres
      replace hh := Lib.hid hh
      go_enter Tryz.func110, Tryz.ntmps110
      go_upto_if 23 with fail
      go_cut [5, 6, 7] (fun x5 x6 x7 wx => x5 = .int .i64 (n : Nat) ∧ x6 = .int .i64 (v : Nat) ∧ x7 = .int .i64 (least : Nat) ∧ wx = w)
      case first =>
        have hh := hh.out
        go_wp2
        · rename_i q
          rw [headN, if_pos (by omega)] at hh
          cases hh
          go_meet
          exact ⟨rfl, by rw [Int.ofNat_sub hc192]; rfl, rfl, rfl⟩
        · rename_i q _
          rw [headN, if_neg (by omega), if_pos (by omega)] at hh
          cases hh
          go_meet
          exact ⟨rfl, by rw [Int.ofNat_sub (by omega)]; rfl, rfl, rfl⟩
        · rename_i q _ _
          rw [headN, if_neg (by omega), if_neg (by omega), if_pos (by omega)] at hh
          cases hh
          go_meet
          exact ⟨rfl, by rw [Int.ofNat_sub (by omega)]; rfl, rfl, rfl⟩
      case rest =>
      obtain ⟨rfl, rfl, rfl, rfl⟩ := hcut
      clear hh hcl hc192 hc248 h0
      by_cases hlen : N < n
      · have e := hres2.out
        rw [tailN, if_pos (by rw [hN.out]; exact hlen)] at e
        subst e
        go_wp2
        go_ret2
        exact ⟨rfl, rfl⟩
      · go_wp2
        go_loop [6, 8] (fun x6 x8 => ∃ (k m v' : Nat), k ≤ n ∧ 1 ≤ k ∧ x8 = .int .i64 k ∧ x6 = .int .i64 v' ∧ m + k = n ∧ v' < 8388608 ∧ Hid (contN l (n - 1) 1 v = contN l m k v') ∧ (k ≤ 1 → v' < 32) ∧ (k ≤ 2 → v' < 2048) ∧ (k ≤ 3 → v' < 131072)) (fun _ x8 => n - (Lib.intOf x8).toNat)
        case atStart => exact ⟨1, n - 1, v, by omega, Nat.le_refl _, rfl, rfl, by omega, by omega, Lib.hid rfl, by omega, by omega, by omega⟩
        case round =>
          obtain ⟨k, m, v', hk, hk1, rfl, rfl, hm, hv', hC, hk2, hk3, hk4⟩ := hrel
          have e1 := hres2.out
          rw [tailN, if_neg (by rw [hN.out]; exact hlen), hC.out] at e1
          by_cases hlt : k < n
          · obtain ⟨x, hx⟩ : ∃ x, l.getD k 0 = x := ⟨_, rfl⟩
            have hxl := x.toNat_lt
            have hck : wc.cell? ⟨b, o + k, none⟩ = some (.int .u8 (x.toNat : Nat)) := by rw [← hx]; exact hb.out k (by rw [hN.out]; omega)
            obtain ⟨m', rfl⟩ : ∃ m', m = m' + 1 := ⟨m - 1, by omega⟩
            by_cases hf : x.toNat / 64 = 2
            · have hfd : decide (x.toNat / 64 = 2) = true := decide_eq_true hf
              have hx128 : 128 ≤ x.toNat := by omega
              have hC2 : Hid (contN l (n - 1) 1 v = contN l m' (k + 1) (64 * v' + x.toNat - 128)) := Lib.hid (by rw [hC.out, contN, hx, if_pos hf])
              clear hC e1
              go_wp2_with (go_at_call 118; refine (follows_any x _).mono ?_; rintro e w' ⟨rfl, rfl⟩)
              have hx256 : x.toNat < 256 := hxl
              refine ⟨⟨k + 1, m', 64 * v' + x.toNat - 128, by omega, by omega, by simp, ?_, by omega, by omega, hC2, by omega, by omega, by omega⟩, by simp [Lib.intOf]; omega⟩
              rw [Int.ofNat_sub (by omega)]
              simp
            · have hfd : decide (x.toNat / 64 = 2) = false := decide_eq_false hf
              rw [contN, hx, if_neg hf] at e1
              subst e1
              go_wp2_with (go_at_call 118; refine (follows_any x _).mono ?_; rintro e w' ⟨rfl, rfl⟩)
              go_ret2
              exact ⟨rfl, rfl⟩
          · obtain rfl : m = 0 := by omega
            have hkn : k = n := by omega
            subst hkn
            rw [contN] at e1
            by_cases q1 : v' < least
            · have e2 : res = (65533, 1) := by rw [e1]; exact if_pos (Or.inl q1)
              subst e2
              go_wp2
              go_ret2
              exact ⟨rfl, rfl⟩
            · by_cases q2 : 1114111 < v'
              · have e2 : res = (65533, 1) := by rw [e1]; exact if_pos (Or.inr (Or.inl q2))
                subst e2
                go_wp2
                go_ret2
                exact ⟨rfl, rfl⟩
              · by_cases q3 : 55296 ≤ v'
                · by_cases q4 : v' ≤ 57343
                  · have e2 : res = (65533, 1) := by rw [e1]; exact if_pos (Or.inr (Or.inr ⟨q3, q4⟩))
                    subst e2
                    go_wp2
                    go_ret2
                    exact ⟨rfl, rfl⟩
                  · have e2 : res = (v', k) := by rw [e1]; exact if_neg (by omega)
                    subst e2
                    go_wp2
                    go_ret2
                    exact ⟨rfl, rfl⟩
                · have e2 : res = (v', k) := by rw [e1]; exact if_neg (by omega)
                  subst e2
                  go_wp2
                  go_ret2
                  exact ⟨rfl, rfl⟩
end
section
open Go.Lib Go.RowKit
/-- Bytes in memory, as a value. -/
structure BytesV (w : World) (A : Option Addr) (n cap : Nat) (l : List UInt8) : Prop where
  len : n = l.length
  cap : n ≤ cap
  at_ : 0 < n → ∃ b o, A = some ⟨b, o, none⟩ ∧ b < w.heap.size ∧ BytesAt w b o l
theorem BytesAt.below {w w' : World} {b o : Nat} {l : List UInt8} (h : BytesAt w b o l) (hb : b < w.heap.size) (hB : Below w.heap.size w w') : BytesAt w' b o l :=
  fun j hj => (hB.cell (p := ⟨b, o + j, none⟩) hb).trans (h j hj)
theorem BytesAt.drop {w : World} {b o : Nat} {l : List UInt8} (h : BytesAt w b o l) (k : Nat) : BytesAt w b (o + k) (l.drop k) := fun j hj => by
  rw [List.length_drop] at hj
  have := h (k + j) (by omega)
  rw [getD_dropU, Nat.add_assoc]
  exact this
theorem info21 : (Tryz.prog.info? 21).map (fun i => (i.zero, i.size, i.bytes)) = some (some (.int .i32 0), 1, 4) := by kernel_rfl
abbrev r32 (r : Int) : Value := .int .i32 r
set_option maxRecDepth 8192 in
set_option maxHeartbeats 3200000 in
theorem runes_any (A : Option Addr) (n cap : Nat) (l : List UInt8) (hbig : n ≤ 1000000) (w : World) (hb : BytesV w A n cap l) :
    Calls Tryz.prog 96 #[.slice A n cap] w fun e w' => ∃ v, e = .returned v ∧ w'.ownsRow w.heap.size 21 1 v (runesL l).length ((runesL l).map r32) ∧ Below w.heap.size w w' := by
  obtain ⟨i0, hi, hz0, hz1, hz2⟩ := info_parts info21
  obtain ⟨hn, hc, hat⟩ := hb
  replace hn := Lib.hid hn
  go_enter Tryz.func96, Tryz.ntmps96
  go_wp2
  go_loopw [3, 4] (fun v x4 wr => ∃ (k : Nat) (pre rest : List Int), k ≤ n ∧ x4 = .int .i64 k ∧ Hid (runesL l = pre ++ rest) ∧ Hid (rest = runesL (l.drop k)) ∧ pre.length ≤ k ∧
      wr.ownsRow w.heap.size 21 1 v pre.length (pre.map r32) ∧ Hid (Below w.heap.size w wr)) (fun _ x4 _ => n - (Lib.intOf x4).toNat)
  case atStart => exact ⟨0, [], _, Nat.zero_le _, rfl, Lib.hid rfl, Lib.hid rfl, Nat.zero_le _, World.ownsRow_nil _ _ _ _, Lib.hid (Below.refl _ _)⟩
  case round =>
    obtain ⟨k, pre, rest, hk, rfl, hpr, hrest, hpk, hrow, hB⟩ := hrel
    by_cases hlt : k < n
    · obtain ⟨b, o, rfl, hbl, hbytes⟩ := hat (by omega)
      have hbytes2 : Hid (BytesAt wr b (o + k) (l.drop k)) := Lib.hid ((hbytes.below hbl hB.out).drop k)
      have hne : l.drop k ≠ [] := fun e => by
        have := congrArg List.length e
        rw [List.length_drop, ← hn.out] at this
        simp at this
        omega
      obtain ⟨r, hr⟩ : ∃ r, (oneN (l.drop k)).1 = r := ⟨_, rfl⟩
      obtain ⟨d, hd⟩ : ∃ d, (oneN (l.drop k)).2 = d := ⟨_, rfl⟩
      have hdl : (l.drop k).length = n - k := by rw [List.length_drop, ← hn.out]
      have hd1 : 1 ≤ d := by rw [← hd, oneN_eq]; exact decodeL_width _
      have hd2 : d ≤ n - k := by rw [← hd, oneN_eq, ← hdl]; exact decodeL_le _ hne
      have hone := one_any b (o + k) (cap - k) (l.drop k) hne (by omega) wr hbytes2.out
      rw [hr, hd, hdl] at hone
      have hstep : Hid (rest = (r : Int) :: runesL (l.drop (k + d))) := Lib.hid (by rw [hrest.out, runesL_step _ hne, ← oneN_eq, hr, hd, List.drop_drop])
      replace hdl := Lib.hid hdl
      replace hr := Lib.hid hr
      replace hd := Lib.hid hd
      have hsz := Lib.hid hB.out.size
      go_wp2_with (first
        | (go_at_call 110; refine hone.mono ?_; rintro e w' ⟨rfl, rfl⟩)
        | (at_builtin; refine wpList_append_own _ rfl _ _ 122 rfl w.heap.size 21 i0 (.int .i32 0) 1 4 Tryz.underlying122 hi hz0 hz1 hz2 rfl (by decide) _ _ _ rfl (hrow.alloc _) ⟨_, 0, none⟩ 1 1 [r32 r] rfl rfl (cell_one_new _ _ _) (by simp [Value.oneCell']) (by unfold maxLen; omega) (by omega) (by have := hsz.out; simp; omega) ?_; intro v' w3 hown' hg3 hnil3; go_frame))
      refine ⟨⟨k + d, pre ++ [(r : Int)], runesL (l.drop (k + d)), by omega, by simp, Lib.hid (by rw [hpr.out, hstep.out]; simp), Lib.hid rfl, by simp; omega, by simpa using hown', Lib.hid ?_⟩, by simp [Lib.intOf]; omega⟩
      exact (hB.out.alloc hsz.out _).grown hg3 (by have := hsz.out; simp; omega) (fun j hj => (hrow.lt j hj).1)
    · have hkn : k = n := by omega
      subst hkn
      have e : rest = [] := by rw [hrest.out, hn.out, List.drop_length]; rfl
      have e2 : Hid (runesL l = pre) := Lib.hid (by rw [hpr.out, e, List.append_nil])
      clear e
      go_wp2
      go_ret
      exact ⟨_, rfl, by rw [e2.out]; exact hrow, hB.out⟩
end
section
open Go.Lib Go.RowKit
set_option maxRecDepth 8192 in
set_option maxHeartbeats 3200000 in
theorem bytes_any (r : Int) (w : World) (h0 : -2147483648 ≤ r) (h9 : r ≤ 2147483647) :
    Calls Tryz.prog 111 #[.int .i32 r] w fun e w' => e = .returned (.slice (some ⟨w.heap.size, 0, none⟩) (runeCells r).length (runeCells r).length) ∧ w' = w.alloc (.cells (runeCells r).toArray 5) := by
  by_cases h1 : 0 ≤ r ∧ r ≤ 127
  · have e : runeCells r = [.int .u8 r] := by rw [runeCells, encodeRuneZ_one h1.1 h1.2]; rfl
    rw [e]
    obtain ⟨h1, h2⟩ := h1
    have g1 : ¬ r < 0 := by omega
    have g2 : ¬ 1114111 < r := by omega
    have g3 : ¬ 55296 ≤ r := by omega
    have g4 : r < 128 := by omega
    go_enter Tryz.func111, Tryz.ntmps111
    go_wp2
    go_ret
    exact ⟨rfl, rfl⟩
  · by_cases h2 : 128 ≤ r ∧ r ≤ 2047
    · have e : runeCells r = [.int .u8 (192 + r / 64), .int .u8 (128 + r % 64)] := by rw [runeCells, encodeRuneZ_two h2.1 h2.2]; rfl
      rw [e]
      obtain ⟨h2, h3⟩ := h2
      have g1 : ¬ r < 0 := by omega
      have g2 : ¬ 1114111 < r := by omega
      have g3 : ¬ 55296 ≤ r := by omega
      have g4 : ¬ r < 128 := by omega
      have g5 : r < 2048 := by omega
      go_enter Tryz.func111, Tryz.ntmps111
      go_wp2
      go_ret
      exact ⟨rfl, rfl⟩
    · by_cases h3 : (2048 ≤ r ∧ r < 55296) ∨ (57343 < r ∧ r ≤ 65535)
      · have e : runeCells r = [.int .u8 (224 + r / 4096), .int .u8 (128 + r / 64 % 64), .int .u8 (128 + r % 64)] := by rw [runeCells, encodeRuneZ_three h3]; rfl
        rw [e]
        have g1 : ¬ r < 0 := by omega
        have g2 : ¬ 1114111 < r := by omega
        have g4 : ¬ r < 128 := by omega
        have g5 : ¬ r < 2048 := by omega
        have g6 : r < 65536 := by omega
        rcases h3 with ⟨h3, h4⟩ | ⟨h3, h4⟩
        · have g3 : ¬ 55296 ≤ r := by omega
          go_enter Tryz.func111, Tryz.ntmps111
          go_wp2
          go_ret
          exact ⟨rfl, rfl⟩
        · have g3 : 55296 ≤ r := by omega
          have g3' : ¬ r ≤ 57343 := by omega
          go_enter Tryz.func111, Tryz.ntmps111
          go_wp2
          go_ret
          exact ⟨rfl, rfl⟩
      · by_cases h4 : 65536 ≤ r ∧ r ≤ 1114111
        · have e : runeCells r = [.int .u8 (240 + r / 262144), .int .u8 (128 + r / 4096 % 64), .int .u8 (128 + r / 64 % 64), .int .u8 (128 + r % 64)] := by rw [runeCells, encodeRuneZ_four h4.1 h4.2]; rfl
          rw [e]
          obtain ⟨h4, h5⟩ := h4
          have g1 : ¬ r < 0 := by omega
          have g2 : ¬ 1114111 < r := by omega
          have g3 : 55296 ≤ r := by omega
          have g3' : ¬ r ≤ 57343 := by omega
          have g4 : ¬ r < 128 := by omega
          have g5 : ¬ r < 2048 := by omega
          have g6 : ¬ r < 65536 := by omega
          go_enter Tryz.func111, Tryz.ntmps111
          go_wp2
          go_ret
          exact ⟨rfl, rfl⟩
        · have hb : r < 0 ∨ (55296 ≤ r ∧ r ≤ 57343) ∨ 1114111 < r := by omega
          have e : runeCells r = [.int .u8 239, .int .u8 191, .int .u8 189] := by rw [runeCells, encodeRuneZ_bad hb]; rfl
          rw [e]
          clear h1 h2 h3 h4
          rcases hb with g1 | ⟨g3, g4⟩ | g2
          · go_enter Tryz.func111, Tryz.ntmps111
            go_wp2
            go_ret
            exact ⟨rfl, rfl⟩
          · have g1 : ¬ r < 0 := by omega
            have g2 : ¬ 1114111 < r := by omega
            go_enter Tryz.func111, Tryz.ntmps111
            go_wp2
            go_ret
            exact ⟨rfl, rfl⟩
          · have g1 : ¬ r < 0 := by omega
            go_enter Tryz.func111, Tryz.ntmps111
            go_wp2
            go_ret
            exact ⟨rfl, rfl⟩
theorem own_cell {w : World} {base : Nat} {e : TypeId} {v : Value} {n : Nat} {xs : List Value} (h : w.ownsRow base e 1 v n xs) : ∃ A cap, v = .slice A n cap ∧ n ≤ cap ∧ ∀ j, j < n → ∃ b, A = some ⟨b, 0, none⟩ ∧ b < w.heap.size ∧ base ≤ b ∧ w.cell? ⟨b, j, none⟩ = xs[j]? := by
  rcases h.2 with ⟨rfl, rfl⟩ | ⟨g, cap, cur, rfl, hb0, hb, h1, h2, h3, h4⟩
  · exact ⟨none, 0, rfl, Nat.le_refl _, fun j hj => absurd hj (Nat.not_lt_zero _)⟩
  · refine ⟨_, cap, rfl, h1, fun j hj => ⟨g, rfl, (Array.getElem?_eq_some_iff.1 hb).1, hb0, ?_⟩⟩
    have e2 : w.cell? ⟨g, j, none⟩ = cur[j]? := by simp [World.cell?, hb]
    rw [e2, ← h4, List.getElem?_take, if_pos (by omega), Array.getElem?_toList]
theorem bytes_data (L : List UInt8) : strOfNums (L.map fun x => (x.toNat : Int)) = ⟨L.toArray⟩ := by
  apply ByteArray.ext
  apply Array.toList_inj.1
  rw [strOfNums_data, List.map_map]
  show _ = L
  conv => rhs; rw [← List.map_id L]
  apply List.map_congr_left
  intro x _
  simp
/-- Bytes of the call's own, as a text. -/
theorem conv_row {w : World} {base : Nat} {v : Value} {n : Nat} {L : List UInt8} (h : w.ownsRow base 5 1 v n (byteCells L)) : (convert 74 9 v).run Tryz.prog w = .ok (.string ⟨L.toArray⟩) w := by
  have hn : n = L.length := by have := h.1; rw [byteCells_length] at this; omega
  obtain ⟨A, cap, rfl, hcap, hc⟩ := own_cell h
  have hx : (L.map fun x => (x.toNat : Int)).length = n := by simp [hn]
  cases A with
  | none =>
    have : n = 0 := Nat.eq_zero_of_not_pos (fun hp => by obtain ⟨b, hb, _⟩ := hc 0 hp; cases hb)
    have : L = [] := List.eq_nil_of_length_eq_zero (by omega)
    subst this
    exact run_convert_bytes_nil w 74 5 Tryz.underlying74 Tryz.underlying5 _ _ 9 Tryz.underlying9
  | some a =>
    obtain ⟨b, o, m⟩ := a
    rcases h.2 with ⟨h1, _⟩ | ⟨g, cap', cur, hv, _⟩
    · cases h1
    · simp only [Value.slice.injEq, Option.some.injEq, Addr.mk.injEq] at hv
      obtain ⟨⟨rfl, rfl, rfl⟩, _, _⟩ := hv
      rw [← bytes_data]
      refine run_convert_bytes_arg w 74 5 Tryz.underlying74 Tryz.underlying5 b 0 n cap _ hx (fun i hi => ?_) 9 Tryz.underlying9
      obtain ⟨b', hb', _, _, hcell⟩ := hc i hi
      simp only [Option.some.injEq, Addr.mk.injEq, and_true] at hb'
      subst hb'
      rw [Nat.zero_add, hcell]
      have hi' : i < L.length := by omega
      simp [byteCells, List.getD, List.getElem?_eq_getElem hi']
theorem info5 : (Tryz.prog.info? 5).map (fun i => (i.zero, i.size, i.bytes)) = some (some (.int .u8 0), 1, 1) := by kernel_rfl
theorem cells_new (w : World) (t : TypeId) (news : List Value) : ∀ j u, news[j]? = some u → (w.alloc (.cells news.toArray t)).cell? ((⟨w.heap.size, 0, none⟩ : Addr).add j) = some u := fun j u h => by
  have e : ((⟨w.heap.size, 0, none⟩ : Addr).add j) = ⟨w.heap.size, j, none⟩ := by unfold Addr.add; split <;> simp_all
  rw [e, World.cell?_alloc_new]
  simpa using h
theorem textL_snoc (pre : List Int) (r : Int) : textL (pre ++ [r]) = textL pre ++ encodeRune r := by simp [textL]
theorem byteCells_append (a b : List UInt8) : byteCells (a ++ b) = byteCells a ++ byteCells b := by simp [byteCells]
set_option maxRecDepth 8192 in
set_option maxHeartbeats 3200000 in
/-- THE TEXT OF CHARACTERS. -/
theorem text_any (v : Value) (rs : List Int) (base : Nat) (hbig : rs.length ≤ 1000000) (hrs : ∀ r ∈ rs, -2147483648 ≤ r ∧ r ≤ 2147483647) (w : World) (hrow : w.ownsRow base 21 1 v rs.length (rs.map r32)) :
    Calls Tryz.prog 97 #[v] w fun e w' => e = .returned (.string ⟨(textL rs).toArray⟩) ∧ Below w.heap.size w w' := by
  obtain ⟨i0, hi, hz0, hz1, hz2⟩ := info_parts info5
  obtain ⟨A, cap, rfl, hcap, hc⟩ := own_cell hrow
  clear hrow
  obtain ⟨N, hN⟩ : ∃ N, rs.length = N := ⟨_, rfl⟩
  rw [hN] at hcap hc hbig ⊢
  replace hN := Lib.hid hN
  replace hrs := Lib.hid hrs
  go_enter Tryz.func97, Tryz.ntmps97
  go_wp2
  go_loopw [3, 4] (fun v x4 wr => ∃ (k : Nat) (pre : List Int) (m : Nat), k ≤ N ∧ x4 = .int .i64 k ∧ Hid (pre = rs.take k) ∧ m ≤ 4 * k ∧
      wr.ownsRow w.heap.size 5 1 v m (byteCells (textL pre)) ∧ Hid (Below w.heap.size w wr)) (fun _ x4 _ => N - (Lib.intOf x4).toNat)
  case atStart => exact ⟨0, [], 0, Nat.zero_le _, rfl, Lib.hid (by simp), Nat.zero_le _, World.ownsRow_nil _ _ _ _, Lib.hid (Below.refl _ _)⟩
  case round =>
    obtain ⟨k, pre, m, hk, rfl, hpre, hm, hrow, hB⟩ := hrel
    by_cases hlt : k < N
    · obtain ⟨b, rfl, hbl, _, hcell⟩ := hc k hlt
      obtain ⟨r, hr⟩ : ∃ r, rs[k]? = some r := ⟨rs[k]'(by rw [hN.out]; exact hlt), List.getElem?_eq_getElem _⟩
      have hrr := hrs.out r (List.mem_of_getElem? hr)
      have hck : wr.cell? ⟨b, k, none⟩ = some (r32 r) := by rw [hB.out.cell (p := ⟨b, k, none⟩) hbl, hcell, List.getElem?_map, hr]; rfl
      have hpre2 : Hid (pre ++ [r] = rs.take (k + 1)) := Lib.hid (by rw [hpre.out, List.take_add_one, hr]; rfl)
      have hL := runeCells_le r
      obtain ⟨q, hq⟩ : ∃ q, (runeCells r).length = q := ⟨_, rfl⟩
      have hbytes := bytes_any r wr hrr.1 hrr.2
      rw [hq] at hbytes hL
      replace hq := Lib.hid hq
      replace hr := Lib.hid hr
      have hsz := Lib.hid hB.out.size
      clear hc hcell hrr
      go_wp2_with (first
        | (go_at_call 111; refine hbytes.mono ?_; rintro e w' ⟨rfl, rfl⟩)
        | (at_builtin; refine wpList_append_own _ rfl _ _ 74 rfl w.heap.size 5 i0 (.int .u8 0) 1 1 Tryz.underlying74 hi hz0 hz1 hz2 rfl (by decide) _ _ _ rfl (hrow.alloc _) ⟨_, 0, none⟩ q q (runeCells r) rfl (by rw [hq.out]; simp) (cells_new _ _ _) (by intro u hu; obtain ⟨x, _, rfl⟩ := List.mem_map.1 hu; rfl) (by unfold maxLen; omega) (by omega) (by have := hsz.out; simp; omega) ?_; intro v' w3 hown' hg3 hnil3; go_frame))
      refine ⟨⟨k + 1, pre ++ [r], m + q, by omega, by simp, hpre2, by omega, by rw [textL_snoc, byteCells_append, byteCells_encodeRune]; exact hown', Lib.hid ?_⟩, by simp [Lib.intOf]; omega⟩
      exact (hB.out.alloc hsz.out _).grown hg3 (by have := hsz.out; simp; omega) (fun j hj => (hrow.lt j hj).1)
    · have hkn : k = N := by omega
      have e2 : Hid (pre = rs) := Lib.hid (by rw [hpre.out, hkn, ← hN.out, List.take_length])
      subst hkn
      have hconv := conv_row hrow
      go_wp2
      go_ret
      exact ⟨by rw [← e2.out]; rfl, hB.out⟩
end
section
open Go.Lib Go.RowKit
def fixR (r : Int) : Int := if r = 13 then 10 else if r = 0 then 65533 else r
theorem rightR_cons (p : Bool) (r : Int) (t : List Int) : rightR p (r :: t) = if r = 10 ∧ p = true then rightR (decide (r = 13)) t else fixR r :: rightR (decide (r = 13)) t := rfl
theorem runesG_range : ∀ (n : Nat) (l : List UInt8), ∀ r ∈ runesG n l, 0 ≤ r ∧ r ≤ 1114111
  | 0, _, r, h => by cases h
  | n + 1, l, r, h => by
    unfold runesG at h
    split at h
    · cases h
    · rcases List.mem_cons.1 h with rfl | h
      · have := decodeL_rune l
        omega
      · exact runesG_range n _ r h
theorem rightR_range : ∀ (p : Bool) (rs : List Int), (∀ r ∈ rs, 0 ≤ r ∧ r ≤ 1114111) → ∀ r ∈ rightR p rs, 0 ≤ r ∧ r ≤ 1114111
  | _, [], _, r, h => by cases h
  | p, a :: t, ha, r, h => by
    rw [rightR_cons] at h
    split at h
    · exact rightR_range _ t (fun x hx => ha x (List.mem_cons_of_mem _ hx)) r h
    · rcases List.mem_cons.1 h with rfl | h
      · have := ha a (by simp)
        unfold fixR
        split
        · omega
        · split <;> omega
      · exact rightR_range _ t (fun x hx => ha x (List.mem_cons_of_mem _ hx)) r h
set_option maxRecDepth 8192 in
set_option maxHeartbeats 6400000 in
theorem right_any (A : Option Addr) (n cap : Nat) (l : List UInt8) (hbig : n ≤ 1000000) (w : World) (hb : BytesV w A n cap l) :
    Calls Tryz.prog 67 #[.slice A n cap] w fun e w' => e = .returned (.string ⟨(rightL l).toArray⟩) ∧ Below w.heap.size w w' := by
  obtain ⟨i0, hi, hz0, hz1, hz2⟩ := info_parts info21
  have hlen := runesL_length l
  have hrange : Hid (∀ r ∈ runesL l, 0 ≤ r ∧ r ≤ 1114111) := Lib.hid (runesG_range _ l)
  have hnl := hb.len
  have hruns := runes_any A n cap l hbig w hb
  obtain ⟨res, hres⟩ : ∃ res, rightL l = res := ⟨_, rfl⟩
  rw [hres]
  obtain ⟨rs, hrs⟩ : ∃ rs, runesL l = rs := ⟨_, rfl⟩
  rw [hrs] at hlen hrange hruns
  have hres2 : Hid (textL (rightR false rs) = res) := Lib.hid (by rw [← hrs]; exact hres)
  obtain ⟨N, hN⟩ : ∃ N, rs.length = N := ⟨_, rfl⟩
  rw [hN] at hlen hruns
  have hNbig : N ≤ 1000000 := by omega
  replace hN := Lib.hid hN
  clear hres hrs hb hnl hlen hbig
  go_enter Tryz.func67, Tryz.ntmps67
  go_wp2_with (go_at_call 96; refine hruns.mono ?_; rintro e w1 ⟨v1, rfl, hrow1, hB1⟩; obtain ⟨A1, cap1, rfl, hcap1, hc1⟩ := own_cell hrow1)
  have hsz1 := Lib.hid hB1.size
  replace hc1 := Lib.hid hc1
  clear hrow1 hruns
  go_loopw [4, 5] (fun v x5 wr => ∃ (k : Nat) (p : Bool) (pre rest : List Int), k ≤ N ∧ x5 = .int .i64 k ∧ Hid (rest = rs.drop k) ∧ Hid (rightR false rs = pre ++ rightR p rest) ∧ Hid (∀ m, k = m + 1 → ∃ r, rs[m]? = some r ∧ p = decide (r = 13)) ∧ Hid (k = 0 → p = false) ∧ pre.length ≤ k ∧
      wr.ownsRow w1.heap.size 21 1 v pre.length (pre.map r32) ∧ Hid (Below w1.heap.size w1 wr)) (fun _ x5 _ => N - (Lib.intOf x5).toNat)
  case atStart => exact ⟨0, false, [], rs, Nat.zero_le _, rfl, Lib.hid rfl, Lib.hid rfl, Lib.hid (fun m h => by cases h), Lib.hid (fun _ => rfl), Nat.le_refl _, World.ownsRow_nil _ _ _ _, Lib.hid (Below.refl _ _)⟩
  case round =>
    obtain ⟨k, p, pre, rest, hk, rfl, hrest, hpre, hprev, hp0, hpk, hrow, hB⟩ := hrel
    by_cases hlt : k < N
    · obtain ⟨b, rfl, hbl, _, hcell⟩ := hc1.out k hlt
      obtain ⟨r, hr⟩ : ∃ r, rs[k]? = some r := ⟨rs[k]'(by rw [hN.out]; exact hlt), List.getElem?_eq_getElem _⟩
      have hrr := hrange.out r (List.mem_of_getElem? hr)
      have hck : wr.cell? ⟨b, k, none⟩ = some (.int .i32 r) := by rw [hB.out.cell (p := ⟨b, k, none⟩) hbl, hcell, List.getElem?_map, hr]; rfl
      have hrest2 : Hid (rest = r :: rs.drop (k + 1)) := Lib.hid (by
        rw [hrest.out]
        obtain ⟨hk', e⟩ := List.getElem?_eq_some_iff.1 hr
        rw [← e, ← List.drop_eq_getElem_cons])
      have hsz := Lib.hid hB.out.size
      have hnext : Hid (∀ m, k + 1 = m + 1 → ∃ r', rs[m]? = some r' ∧ decide (r = 13) = decide (r' = 13)) := Lib.hid (fun m h => ⟨r, by rw [show m = k by omega]; exact hr, rfl⟩)
      clear hcell
      obtain ⟨hr0, hr9⟩ := hrr
      go_upto_region 7 with fail
      go_cut [32] (fun x wx => x = .bool (decide (r = 10) && p) ∧ wx = wr)
      case first =>
        by_cases h10 : r = 10
        · have hdec : (r == 10) = true := by rw [h10]; rfl
          by_cases hk0 : 0 < k
          · obtain ⟨r', hr', hp⟩ := hprev.out (k - 1) (by omega)
            have hcm : wr.cell? ⟨b, k - 1, none⟩ = some (.int .i32 r') := by
              obtain ⟨b', hb', _, _, hcell'⟩ := hc1.out (k - 1) (by omega)
              simp only [Option.some.injEq, Addr.mk.injEq, and_true] at hb'
              subst hb'
              rw [hB.out.cell (p := ⟨b, k - 1, none⟩) hbl, hcell', List.getElem?_map, hr']
              rfl
            have hdp : (r' == 13) = p := by rw [hp]; rfl
            replace h10 := Lib.hid h10
            clear hp hprev hp0
            go_wp2
            go_meet
            exact ⟨by rw [decide_eq_true h10.out]; rfl, rfl⟩
          · have hp := hp0.out (by omega)
            subst hp
            replace h10 := Lib.hid h10
            go_wp2
            go_meet
            exact ⟨by simp, rfl⟩
        · have hdec : (r == 10) = false := beq_eq_false_iff_ne.2 h10
          go_wp2
          go_meet
          exact ⟨by rw [decide_eq_false h10]; rfl, rfl⟩
      case rest =>
      obtain ⟨rfl, rfl⟩ := hcut
      cases hskip : (decide (r = 10) && p) with
      | true =>
        have h10 := hskip
        rw [Bool.and_eq_true, decide_eq_true_eq] at h10
        have hpre3 : Hid (rightR false rs = pre ++ rightR (decide (r = 13)) (rs.drop (k + 1))) := Lib.hid (by rw [hpre.out, hrest2.out, rightR_cons, if_pos ⟨h10.1, h10.2⟩])
        clear h10
        go_wp2
        exact ⟨⟨k + 1, decide (r = 13), pre, rs.drop (k + 1), by omega, by simp, Lib.hid rfl, hpre3, hnext, Lib.hid (fun h => by cases h), by omega, hrow, hB⟩, by simp [Lib.intOf]; omega⟩
      | false =>
        have h10 : ¬ (r = 10 ∧ p = true) := by
          have := hskip
          simpa using this
        have hpre3 : Hid (rightR false rs = (pre ++ [fixR r]) ++ rightR (decide (r = 13)) (rs.drop (k + 1))) := Lib.hid (by rw [hpre.out, hrest2.out, rightR_cons, if_neg h10]; simp)
        clear h10
        obtain ⟨q, hq⟩ : ∃ q, fixR r = q := ⟨_, rfl⟩
        rw [hq] at hpre3
        replace hq := Lib.hid hq
        go_upto_region 12 with fail
        · have hv : q = 10 := by
            rename_i h2
            rw [← hq.out]
            rw [fixR, if_pos (by simpa using h2)]
          rw [hv] at hpre3
          clear hq hv
          go_wp2_with (at_builtin; refine wpList_append_own _ rfl _ _ 122 rfl w1.heap.size 21 i0 (.int .i32 0) 1 4 Tryz.underlying122 hi hz0 hz1 hz2 rfl (by decide) _ _ _ rfl (hrow.alloc _) ⟨_, 0, none⟩ 1 1 [r32 _] rfl rfl (cell_one_new _ _ _) (by simp [Value.oneCell']) (by unfold maxLen; omega) (by omega) (by have := hsz.out; simp; omega) ?_; intro v' w3 hown' hg3 hnil3; go_frame)
          refine ⟨⟨k + 1, decide (r = 13), pre ++ [10], rs.drop (k + 1), by omega, by simp, Lib.hid rfl, hpre3, hnext, Lib.hid (fun h => by cases h), by simp; omega, by simpa using hown', Lib.hid ?_⟩, by simp [Lib.intOf]; omega⟩
          exact (hB.out.alloc hsz.out _).grown hg3 (by have := hsz.out; simp; omega) (fun j hj => (hrow.lt j hj).1)
        · have hv : q = 65533 := by
            rename_i h1 h2
            rw [← hq.out]
            rw [fixR, if_neg (by simpa using h1), if_pos (by simpa using h2)]
          rw [hv] at hpre3
          clear hq hv
          go_wp2_with (at_builtin; refine wpList_append_own _ rfl _ _ 122 rfl w1.heap.size 21 i0 (.int .i32 0) 1 4 Tryz.underlying122 hi hz0 hz1 hz2 rfl (by decide) _ _ _ rfl (hrow.alloc _) ⟨_, 0, none⟩ 1 1 [r32 _] rfl rfl (cell_one_new _ _ _) (by simp [Value.oneCell']) (by unfold maxLen; omega) (by omega) (by have := hsz.out; simp; omega) ?_; intro v' w3 hown' hg3 hnil3; go_frame)
          refine ⟨⟨k + 1, decide (r = 13), pre ++ [65533], rs.drop (k + 1), by omega, by simp, Lib.hid rfl, hpre3, hnext, Lib.hid (fun h => by cases h), by simp; omega, by simpa using hown', Lib.hid ?_⟩, by simp [Lib.intOf]; omega⟩
          exact (hB.out.alloc hsz.out _).grown hg3 (by have := hsz.out; simp; omega) (fun j hj => (hrow.lt j hj).1)
        · have hv : q = r := by
            rename_i h1 h2
            rw [← hq.out]
            rw [fixR, if_neg (by simpa using h1), if_neg (by simpa using h2)]
          rw [hv] at hpre3
          clear hq hv
          go_wp2_with (at_builtin; refine wpList_append_own _ rfl _ _ 122 rfl w1.heap.size 21 i0 (.int .i32 0) 1 4 Tryz.underlying122 hi hz0 hz1 hz2 rfl (by decide) _ _ _ rfl (hrow.alloc _) ⟨_, 0, none⟩ 1 1 [r32 _] rfl rfl (cell_one_new _ _ _) (by simp [Value.oneCell']) (by unfold maxLen; omega) (by omega) (by have := hsz.out; simp; omega) ?_; intro v' w3 hown' hg3 hnil3; go_frame)
          refine ⟨⟨k + 1, decide (r = 13), pre ++ [r], rs.drop (k + 1), by omega, by simp, Lib.hid rfl, hpre3, hnext, Lib.hid (fun h => by cases h), by simp; omega, by simpa using hown', Lib.hid ?_⟩, by simp [Lib.intOf]; omega⟩
          exact (hB.out.alloc hsz.out _).grown hg3 (by have := hsz.out; simp; omega) (fun j hj => (hrow.lt j hj).1)
    · have hkn : k = N := by omega
      have e : rest = [] := by rw [hrest.out, hkn, ← hN.out, List.drop_length]
      have e2 : Hid (textL pre = res) := Lib.hid (by rw [← hres2.out, hpre.out, e]; simp [rightR])
      have e3 : ∀ r ∈ pre, -2147483648 ≤ r ∧ r ≤ 2147483647 := fun r hr => by
        have h1 := rightR_range false rs hrange.out r (by rw [hpre.out]; exact List.mem_append_left _ hr)
        omega
      have htext := text_any u4 pre w1.heap.size (by omega) e3 wr hrow
      subst hkn
      go_wp2_with (go_at_call 97; refine htext.mono ?_; rintro e w2 ⟨rfl, hB2⟩)
      go_ret
      exact ⟨by rw [← e2.out]; rfl, (hB1.trans (hB.out.mono hsz1.out)).trans (hB2.mono (Nat.le_trans hsz1.out hB.out.size))⟩
end
end Go.Proofs.YtghlodpbbghcoaaGreatDoor.Nd

/- Names, words, attributes, values of package strainerref03: walked. -/
namespace Go.Proofs.YtghlodpbbghcoaaGreatDoor.Nd
section
open Go.Lib Go.RowKit
def cut30 (s : ByteArray) : ByteArray := if 30 < s.size then s.extract 0 30 else s
theorem cut30_size (s : ByteArray) : (cut30 s).size ≤ 30 := by
  unfold cut30
  split
  · rw [ByteArray.size_extract]; omega
  · omega
set_option maxRecDepth 8192 in
theorem few30_any (s : ByteArray) (w : World) : Calls Tryz.prog 99 #[.string s] w fun e w' => e = .returned (.string (cut30 s)) ∧ w' = w := by
  go_enter Tryz.func99, Tryz.ntmps99
  by_cases h : 30 < s.size
  · go_wp2
    go_ret
    exact ⟨by rw [cut30, if_pos h]; rfl, rfl⟩
  · go_wp2
    go_ret
    exact ⟨by rw [cut30, if_neg h]; rfl, rfl⟩
end
section
open Go.Lib Go.RowKit
set_option maxRecDepth 8192 in
theorem small3_any (c : UInt8) (w : World) : Calls Tryz.prog 81 #[.int .u8 c.toNat] w fun e w' => e = .returned (.bool (letterB c)) ∧ w' = w := by
  go_enter Tryz.func81, Tryz.ntmps81
  obtain ⟨r, hr⟩ : ∃ r, letterB c = r := ⟨_, rfl⟩
  have hr2 : Hid (r = decide (97 ≤ c.toNat ∧ c.toNat ≤ 122)) := Lib.hid hr.symm
  rw [hr]
  clear hr
  have hc := c.toNat_lt
  generalize c.toNat = n at *
  go_wp2
  all_goals go_ret
  all_goals refine ⟨?_, rfl⟩
  all_goals rw [hr2.out]
  all_goals exact congrArg (fun b => Ending.returned (Value.bool b)) (by rw [Bool.eq_iff_iff]; simp; omega)
theorem namedL_all (s : ByteArray) (h : 0 < s.size) : namedL s.data.toList = (letterB s[0] && s.data.toList.all nameB) := by
  obtain ⟨l, hl⟩ : ∃ l, s.data.toList = l := ⟨_, rfl⟩
  have h0 : s.data.toList[0]'(by simpa using h) = s[0] := rfl
  cases l with
  | nil => have : s.data.toList.length = s.size := by simp
           rw [hl] at this; simp at this; omega
  | cons c t =>
    have e : s[0] = c := by rw [← h0]; simp [hl]
    rw [hl, e, namedL, List.all_cons]
    cases hc : letterB c with
    | false => rfl
    | true => simp [nameB, hc]
set_option maxRecDepth 8192 in
set_option maxHeartbeats 3200000 in
theorem named3_any (s : ByteArray) (hs : s.size ≤ maxLen) (w : World) :
    Calls Tryz.prog 51 #[.string s] w fun e w' => e = .returned (.bool (namedL s.data.toList)) ∧ w' = w := by
  have hmax : s.size ≤ 9223372036854775807 := hs
  have hz : s.data.toList.length = s.size := by simp
  by_cases h0 : 0 < s.size
  · rw [namedL_all s h0]
    obtain ⟨c0, hc0⟩ : ∃ c, s[0] = c := ⟨_, rfl⟩
    obtain ⟨a, ha⟩ : ∃ a, s.data.toList.all nameB = a := ⟨_, rfl⟩
    rw [hc0, ha]
    have hsm := small3_any c0
    obtain ⟨r, hr⟩ : ∃ r, letterB c0 = r := ⟨_, rfl⟩
    rw [hr] at hsm ⊢
    have hall : Hid (a = true ↔ ∀ j (h : j < s.size), nameB s[j] = true) := Lib.hid (by
      rw [← ha, List.all_eq_true]
      constructor
      · exact fun h j hj => h _ (by rw [← data_get s j hj]; exact List.getElem_mem _)
      · intro h x hx
        obtain ⟨j, hj, rfl⟩ := List.getElem_of_mem hx
        exact h j (by rwa [hz] at hj))
    clear ha hr
    replace hz := Lib.hid hz
    go_enter Tryz.func51, Tryz.ntmps51
    go_upto_region 5 with (go_at_call 81; refine (hsm _).mono ?_; rintro e w1 ⟨rfl, rfl⟩)
    go_loop [4] (fun i => ∃ k : Nat, k ≤ s.size ∧ i = .int .i64 k ∧ Hid (∀ j (h : j < s.size), j < k → nameB s[j] = true)) (fun i => s.size - (Lib.intOf i).toNat)
    case atStart => exact ⟨0, Nat.zero_le _, rfl, Lib.hid (fun j _ h => absurd h (Nat.not_lt_zero _))⟩
    case round =>
      obtain ⟨k, hk, rfl, hok⟩ := hrel
      by_cases hlt : k < s.size
      · obtain ⟨cb, hcb⟩ : ∃ cb : UInt8, s[k] = cb := ⟨_, rfl⟩
        have hi0 : (0 : Int) ≤ (k : Int) := by omega
        have hi1 : (k : Int) < (s.size : Int) := by omega
        have hc256 := cb.toNat_lt
        have hsm2 := small3_any cb
        obtain ⟨ok, hok2⟩ : ∃ ok, nameB cb = ok := ⟨_, rfl⟩
        obtain ⟨le, hle⟩ : ∃ le, letterB cb = le := ⟨_, rfl⟩
        have hbad2 : Hid (ok = (le || decide (48 ≤ cb.toNat ∧ cb.toNat ≤ 57) || decide (cb.toNat = 45))) := Lib.hid (by rw [← hok2, nameB, hle])
        have hgood : Hid (ok = true → ∀ j (h : j < s.size), j < k + 1 → nameB s[j] = true) := Lib.hid (fun e j h hj => by
          by_cases e2 : j = k
          · subst e2; rw [hcb, hok2, e]
          · exact hok.out j h (by omega))
        have hno : Hid (ok = false → a = false) := Lib.hid (fun e => by
          refine Bool.eq_false_iff.2 (fun hr => ?_)
          have := hall.out.1 hr k hlt
          rw [hcb, hok2, e] at this
          cases this)
        rw [hle] at hsm2
        clear hok2 hle
        go_upto_region 8 with (go_at_call 81; refine (hsm2 _).mono ?_; rintro e w2 ⟨rfl, rfl⟩)
        clear hsm2 hsm
        cases le
        all_goals go_wp2
        all_goals first
          | (have e : ok = true := by rw [hbad2.out]; clear hgood hno hbad2 hok hz hall; generalize cb.toNat = c at *; simp at *; omega
             exact ⟨⟨k + 1, by omega, by simp <;> omega, Lib.hid (hgood.out e)⟩, by simp [Lib.intOf]; omega⟩)
          | (have e : ok = true := by rw [hbad2.out]; rfl
             exact ⟨⟨k + 1, by omega, by simp <;> omega, Lib.hid (hgood.out e)⟩, by simp [Lib.intOf]; omega⟩)
          | (have e : ok = false := by rw [hbad2.out]; clear hgood hno hbad2 hok hz hall; generalize cb.toNat = c at *; simp at *; omega
             have e2 := hno.out e
             subst e2
             go_ret
             exact ⟨by simp, rfl⟩)
      · have hkn : k = s.size := by omega
        have e : a = true := hall.out.2 (fun j h => hok.out j h (by omega))
        subst hkn
        subst e
        clear hall hok
        go_wp2
        go_ret
        exact ⟨rfl, rfl⟩
  · have h1 : s.data.toList = [] := List.eq_nil_of_length_eq_zero (by omega)
    have h2 : (s.size : Int) = 0 := by omega
    rw [h1]
    go_enter Tryz.func51, Tryz.ntmps51
    go_wp2
    go_ret
    exact ⟨rfl, rfl⟩
end
section
open Go.Lib Go.RowKit
theorem bytesV_of (w : World) (s : ByteArray) : BytesV (bytesWorld w 5 s) (some ⟨w.heap.size, 0, none⟩) s.size (grownCap w s.size 0 5) s.data.toList :=
  ⟨(Array.length_toList).symm, grownCap_ge w s.size 0 5, fun _ => ⟨_, _, rfl, by rw [bytesWorld_size]; omega, fun j hj => by rw [Nat.zero_add]; exact bytesWorld_cell w 5 s j (by rwa [Array.length_toList] at hj)⟩⟩
theorem below_bytes (w : World) (s : ByteArray) : Below w.heap.size w (bytesWorld w 5 s) :=
  ⟨rfl, rfl, rfl, by rw [bytesWorld_size]; omega, fun k hk => bytesWorld_at_old w 5 s k hk⟩
set_option maxRecDepth 8192 in
set_option maxHeartbeats 1600000 in
theorem is3_any (s : ByteArray) (hs : s.size ≤ 1000000) (w : World) :
    Calls Tryz.prog 112 #[.string s] w fun e w' => e = .returned (.bool (isL s.data.toList)) ∧ Below w.heap.size w w' := by
  have hconv := Lib.run_convert_string_bytes (P := Tryz.prog) w 9 74 5 s Tryz.underlying9 Tryz.underlying74 Tryz.underlying5
  have hright := right_any (some ⟨w.heap.size, 0, none⟩) s.size (grownCap w s.size 0 5) s.data.toList hs _ (bytesV_of w s)
  obtain ⟨W, hW⟩ : ∃ W, bytesWorld w 5 s = W := ⟨_, rfl⟩
  have hBW : Hid (Below w.heap.size w W) := Lib.hid (by rw [← hW]; exact below_bytes w s)
  rw [hW] at hconv hright
  clear hW
  obtain ⟨t, ht⟩ : ∃ t : ByteArray, (⟨(rightL s.data.toList).toArray⟩ : ByteArray) = t := ⟨_, rfl⟩
  have hts : Hid (isL s.data.toList = (t.toList == s.toList)) := Lib.hid (by rw [← ht, ByteArray.toList_mk, ByteArray.toList_eq, isL_iff])
  rw [ht] at hright
  clear ht
  obtain ⟨gc, hgc⟩ : ∃ gc, grownCap w s.size 0 5 = gc := ⟨_, rfl⟩
  rw [hgc] at hconv hright
  clear hgc
  go_enter Tryz.func112, Tryz.ntmps112
  go_wp2_with (go_at_call 67; refine hright.mono ?_; rintro e w2 ⟨rfl, hB2⟩)
  go_ret
  exact ⟨by rw [hts.out]; rfl, hBW.out.trans (hB2.mono hBW.out.size)⟩
end
section
open Go.Lib Go.RowKit
set_option maxRecDepth 8192 in
set_option maxHeartbeats 6400000 in
theorem attributed3_any (s : ByteArray) (hs : s.size ≤ 1000000) (w : World) :
    Calls Tryz.prog 98 #[.string s] w fun e w' => e = .returned (.bool (attrL s.data.toList)) ∧ Below w.heap.size w w' := by
  have his := is3_any s hs w
  obtain ⟨I, hI⟩ : ∃ I, isL s.data.toList = I := ⟨_, rfl⟩
  obtain ⟨a, ha⟩ : ∃ a, s.data.toList.all attrB = a := ⟨_, rfl⟩
  obtain ⟨r, hr⟩ : ∃ r, attrL s.data.toList = r := ⟨_, rfl⟩
  have hr2 : Hid (r = (a && (!s.toList.isEmpty && I))) := Lib.hid (by rw [← hr, attrL, ha, hI, ByteArray.toList_eq])
  rw [hI] at his
  rw [hr]
  have hz : s.data.toList.length = s.size := by simp
  have hafalse : Hid (∀ j (h : j < s.size), attrB s[j] = false → r = false) := Lib.hid (fun j h e => by
    have : a = false := by
      rw [← ha, List.all_eq_false]
      exact ⟨_, List.getElem_mem (show j < s.data.toList.length by rw [hz]; exact h), by rw [data_get s j h, e]; simp⟩
    rw [hr2.out, this]; rfl)
  have hatrue : Hid ((∀ j (h : j < s.size), attrB s[j] = true) → a = true) := Lib.hid (fun h => by
    rw [← ha]
    refine List.all_eq_true.2 (fun x hx => ?_)
    obtain ⟨j, hj, rfl⟩ := List.getElem_of_mem hx
    exact h j (by rw [hz] at hj; exact hj))
  have hem : Hid ((!s.toList.isEmpty) = decide (0 < s.size)) := Lib.hid (by
    rw [ByteArray.toList_eq, Bool.eq_iff_iff, Bool.not_eq_true', List.isEmpty_eq_false_iff, ← List.length_pos_iff, hz, decide_eq_true_eq])
  have hmax : s.size ≤ 9223372036854775807 := by omega
  clear ha hr hI hz
  go_enter Tryz.func98, Tryz.ntmps98
  go_upto_region 3 with (go_at_call 112; refine his.mono ?_; rintro e w1 ⟨rfl, hB⟩)
  replace hB := Lib.hid hB
  go_loop [4] (fun i => ∃ k : Nat, k ≤ s.size ∧ i = .int .i64 k ∧ Hid (∀ j (h : j < s.size), j < k → attrB s[j] = true)) (fun i => s.size - (Lib.intOf i).toNat)
  case atStart => exact ⟨0, Nat.zero_le _, rfl, Lib.hid (fun j _ h => absurd h (Nat.not_lt_zero _))⟩
  case round =>
    obtain ⟨k, hk, rfl, hok⟩ := hrel
    by_cases hlt : k < s.size
    · obtain ⟨cb, hcb⟩ : ∃ cb : UInt8, s[k] = cb := ⟨_, rfl⟩
      have hi0 : (0 : Int) ≤ (k : Int) := by omega
      have hi1 : (k : Int) < (s.size : Int) := by omega
      have hc256 := cb.toNat_lt
      obtain ⟨ok, hbad⟩ : ∃ ok, attrB cb = ok := ⟨_, rfl⟩
      have hbad2 : Hid (ok = !(decide (65 ≤ cb.toNat ∧ cb.toNat ≤ 90) || decide (cb.toNat = 9) || decide (cb.toNat = 10) || decide (cb.toNat = 12) || decide (cb.toNat = 32) || decide (cb.toNat = 47) || decide (cb.toNat = 62) || decide (cb.toNat = 61))) := Lib.hid hbad.symm
      have hgood : Hid (ok = true → ∀ j (h : j < s.size), j < k + 1 → attrB s[j] = true) := Lib.hid (fun e j h hj => by
        by_cases e2 : j = k
        · subst e2; rw [hcb, hbad, e]
        · exact hok.out j h (by omega))
      have hno : Hid (ok = false → r = false) := Lib.hid (fun e => hafalse.out k hlt (by rw [hcb, hbad, e]))
      clear hbad hafalse hatrue hr2 his hem
      go_upto_region 6 with fail
      generalize cb.toNat = c at *
      go_wp2
      all_goals first
        | (have e : ok = true := by rw [hbad2.out]; clear hgood hno hbad2 hok hB; simp at *; omega
           exact ⟨⟨k + 1, by omega, by simp <;> omega, Lib.hid (hgood.out e)⟩, by simp [Lib.intOf]; omega⟩)
        | (have e : ok = false := by rw [hbad2.out]; clear hgood hno hbad2 hok hB; simp at *; omega
           have e2 := hno.out e
           subst e2
           go_ret
           exact ⟨rfl, hB.out⟩)
    · have hkn : k = s.size := by omega
      have e : a = true := hatrue.out (fun j h => hok.out j h (by omega))
      have hr3 : Hid (r = (decide (0 < s.size) && I)) := Lib.hid (by rw [hr2.out, e, Bool.true_and, hem.out])
      subst hkn
      clear hok hatrue hafalse hr2 hem e his
      cases I
      all_goals go_wp2
      all_goals go_ret
      all_goals refine ⟨?_, hB.out⟩
      all_goals rw [hr3.out]
      · rw [Bool.and_false]; rfl
      · refine congrArg (fun b => Ending.returned (Value.bool b)) ?_
        rw [Bool.and_true, Bool.eq_iff_iff]
end
section
open Go.Lib Go.RowKit
def wordsL : List ByteArray := [⟨#[97]⟩, ⟨#[98]⟩, ⟨#[112]⟩, ⟨#[117, 108]⟩, ⟨#[108, 105]⟩, ⟨#[98, 114]⟩, ⟨#[105, 109, 103]⟩, ⟨#[100, 105, 118]⟩, ⟨#[115, 99, 114, 105, 112, 116]⟩, ⟨#[120, 45, 121]⟩]
def attrsL : List ByteArray := [⟨#[105, 100]⟩, ⟨#[104, 114, 101, 102]⟩, ⟨#[116, 105, 116, 108, 101]⟩, ⟨#[100, 97, 116, 97, 45, 97]⟩, ⟨#[111, 110, 99, 108, 105, 99, 107]⟩]
/-- Not what a text or a comment is called in a list. -/
def NotTag (s : ByteArray) : Prop := s.data.toList ≠ [35, 116, 101, 120, 116] ∧ s.data.toList ≠ [35, 99, 111, 109, 109, 101, 110, 116]
theorem notTag_nil : NotTag ⟨#[]⟩ := ⟨by decide, by decide⟩
theorem wordsL_not : ∀ j, NotTag (wordsL.getD j ByteArray.empty) := by
  intro j
  rcases j with _ | _ | _ | _ | _ | _ | _ | _ | _ | _ | j <;> first | exact ⟨by decide, by decide⟩ | (show NotTag ByteArray.empty; exact ⟨by decide, by decide⟩)
theorem named_not {s : ByteArray} (h : namedL s.data.toList = true) : NotTag s := by
  refine ⟨fun e => ?_, fun e => ?_⟩
  all_goals
    rw [e] at h
    exact absurd h (by decide)
theorem wordsL_small : ∀ j, (wordsL.getD j ByteArray.empty).size ≤ 10 := by
  intro j
  rcases j with _ | _ | _ | _ | _ | _ | _ | _ | _ | _ | j <;> first | decide | exact Nat.zero_le _
theorem attrsL_small : ∀ j, (attrsL.getD j ByteArray.empty).size ≤ 10 := by
  intro j
  rcases j with _ | _ | _ | _ | _ | j <;> first | decide | exact Nat.zero_le _
theorem wordsL_cell (w : World) (j : Nat) (hj : j < 10) : (w.alloc (.cells #[.string ⟨#[97]⟩, .string ⟨#[98]⟩, .string ⟨#[112]⟩, .string ⟨#[117, 108]⟩, .string ⟨#[108, 105]⟩, .string ⟨#[98, 114]⟩, .string ⟨#[105, 109, 103]⟩, .string ⟨#[100, 105, 118]⟩, .string ⟨#[115, 99, 114, 105, 112, 116]⟩, .string ⟨#[120, 45, 121]⟩] 9)).cell? ⟨w.heap.size, j, none⟩ = some (.string (wordsL.getD j ByteArray.empty)) := by
  rw [World.cell?_alloc_new]
  rcases j with _ | _ | _ | _ | _ | _ | _ | _ | _ | _ | j <;> first | rfl | omega
theorem attrsL_cell (w : World) (j : Nat) (hj : j < 5) : (w.alloc (.cells #[.string ⟨#[105, 100]⟩, .string ⟨#[104, 114, 101, 102]⟩, .string ⟨#[116, 105, 116, 108, 101]⟩, .string ⟨#[100, 97, 116, 97, 45, 97]⟩, .string ⟨#[111, 110, 99, 108, 105, 99, 107]⟩] 9)).cell? ⟨w.heap.size, j, none⟩ = some (.string (attrsL.getD j ByteArray.empty)) := by
  rw [World.cell?_alloc_new]
  rcases j with _ | _ | _ | _ | _ | j <;> first | rfl | omega
set_option maxRecDepth 8192 in
set_option maxHeartbeats 3200000 in
theorem attribute_any (s : ByteArray) (hs : s.size ≤ 1000000) (w : World) :
    Calls Tryz.prog 69 #[.string s] w fun e w' => (∃ t : ByteArray, e = .returned (.string t) ∧ t.size ≤ s.size + 10) ∧ Below w.heap.size w w' := by
  have hat := attributed3_any s hs w
  obtain ⟨a, ha⟩ : ∃ a, attrL s.data.toList = a := ⟨_, rfl⟩
  rw [ha] at hat
  clear ha
  have hmax : s.size ≤ 9223372036854775807 := by omega
  obtain ⟨m, hm⟩ : ∃ m, s.size % 5 = m := ⟨_, rfl⟩
  have hm5 : m < 5 := by omega
  have hm2 : (s.size : Int).tmod 5 = (m : Int) := by rw [Int.tmod_eq_emod_of_nonneg (by omega)]; omega
  cases a
  · go_enter Tryz.func69, Tryz.ntmps69
    go_wp2_with (go_at_call 98; refine hat.mono ?_; rintro e w1 ⟨rfl, hB⟩; have hcell := attrsL_cell w1 m hm5)
    go_ret
    exact ⟨⟨attrsL.getD m ByteArray.empty, by rw [List.getD_eq_getElem?_getD]; rfl, by have := attrsL_small m; omega⟩, hB.alloc hB.size _⟩
  · go_enter Tryz.func69, Tryz.ntmps69
    go_wp2_with (go_at_call 98; refine hat.mono ?_; rintro e w1 ⟨rfl, hB⟩)
    go_ret
    exact ⟨⟨s, rfl, by omega⟩, hB⟩
set_option maxRecDepth 8192 in
set_option maxHeartbeats 3200000 in
theorem word_any (s : ByteArray) (hs : s.size ≤ 1000000) (w : World) :
    Calls Tryz.prog 68 #[.string s] w fun e w' => (∃ t : ByteArray, e = .returned (.string t) ∧ t.size ≤ s.size + 10 ∧ NotTag t) ∧ Below w.heap.size w w' := by
  have hat := named3_any s (Nat.le_trans hs (by unfold maxLen; decide))
  obtain ⟨a, ha⟩ : ∃ a, namedL s.data.toList = a := ⟨_, rfl⟩
  rw [ha] at hat
  have hnot : Hid (a = true → NotTag s) := Lib.hid (fun e => named_not (by rw [ha, e]))
  clear ha
  have hmax : s.size ≤ 9223372036854775807 := by omega
  have hcell := wordsL_cell w
  go_enter Tryz.func68, Tryz.ntmps68
  go_upto_region 4 with fail
  obtain ⟨W, hW⟩ : ∃ W, w.alloc (.cells #[.string ⟨#[97]⟩, .string ⟨#[98]⟩, .string ⟨#[112]⟩, .string ⟨#[117, 108]⟩, .string ⟨#[108, 105]⟩, .string ⟨#[98, 114]⟩, .string ⟨#[105, 109, 103]⟩, .string ⟨#[100, 105, 118]⟩, .string ⟨#[115, 99, 114, 105, 112, 116]⟩, .string ⟨#[120, 45, 121]⟩] 9) = W := ⟨_, rfl⟩
  have hB : Hid (Below w.heap.size w W) := Lib.hid (by rw [← hW]; exact (Below.refl _ w).alloc (Nat.le_refl _) _)
  have hWs : Hid (w.heap.size < W.heap.size) := Lib.hid (by rw [← hW]; simp)
  rw [hW] at hcell ⊢
  replace hcell := Lib.hid hcell
  clear hW
  go_loop [4, 5] (fun n i => ∃ k m : Nat, k ≤ s.size ∧ i = .int .i64 k ∧ n = .int .i64 m ∧ m ≤ 255 * k) (fun _ i => s.size - (Lib.intOf i).toNat)
  case atStart => exact ⟨0, 0, Nat.zero_le _, rfl, rfl, Nat.zero_le _⟩
  case round =>
    obtain ⟨k, m, hk, rfl, rfl, hm⟩ := hrel
    by_cases hlt : k < s.size
    · obtain ⟨cb, hcb⟩ : ∃ cb : UInt8, s[k] = cb := ⟨_, rfl⟩
      have hi0 : (0 : Int) ≤ (k : Int) := by omega
      have hi1 : (k : Int) < (s.size : Int) := by omega
      have hc256 := cb.toNat_lt
      have hc2 : (cb.toNat : Int) ≤ 255 := by omega
      go_wp2
      refine ⟨⟨k + 1, m + cb.toNat, by omega, by simp, by simp, by omega⟩, by simp [Lib.intOf]; omega⟩
    · obtain ⟨q, hq⟩ : ∃ q, m % 10 = q := ⟨_, rfl⟩
      have hq10 : q < 10 := by omega
      have hq2 : (m : Int).tmod 10 = (q : Int) := by rw [Int.tmod_eq_emod_of_nonneg (by omega)]; omega
      have hc := hcell.out q hq10
      have hkn : k = s.size := by omega
      subst hkn
      cases a
      · go_wp2_with (go_at_call 51; refine (hat _).mono ?_; rintro e w1 ⟨rfl, rfl⟩)
        go_ret
        exact ⟨⟨wordsL.getD q ByteArray.empty, by rw [List.getD_eq_getElem?_getD]; rfl, by have := wordsL_small q; omega, wordsL_not q⟩, hB.out⟩
      · go_wp2_with (go_at_call 51; refine (hat _).mono ?_; rintro e w1 ⟨rfl, rfl⟩)
        go_ret
        exact ⟨⟨s, rfl, by omega, hnot.out trivial⟩, hB.out⟩
end
section
open Go.Lib Go.RowKit
/-- A text, and whether. -/
def ValPost (w : World) (e : Ending) (w' : World) : Prop := (∃ (t : ByteArray) (b : Bool), e = .returned (.tuple #[.string t, .bool b])) ∧ Below w.heap.size w w'
set_option maxRecDepth 8192 in
set_option maxHeartbeats 3200000 in
theorem value_safe (k : Int) (nm tx a : ByteArray) (va vk : Value) (al : List (ByteArray × ByteArray)) (w : World) (hr : ARow w (fun b => b < w.heap.size) va al) (hl : al.length ≤ 1000000) :
    Calls Tryz.prog 70 #[.agg #[.int .i64 k, .string nm, va, .string tx, vk], .string a] w (ValPost w) := by
  obtain ⟨A, cap, rfl, hc, hat⟩ := hr
  obtain ⟨n, hn⟩ : ∃ n, al.length = n := ⟨_, rfl⟩
  rw [hn] at hc hl ⊢
  replace hn := Lib.hid hn
  replace hat := Lib.hid hat
  go_enter Tryz.func70, Tryz.ntmps70
  go_upto_region 2 with fail
  obtain ⟨W, hW⟩ : ∃ W, w.alloc (.cells #[.int .i64 k, .string nm, .slice A n cap, .string tx, vk] 44) = W := ⟨_, rfl⟩
  have hB : Hid (Below w.heap.size w W) := Lib.hid (by rw [← hW]; exact (Below.refl _ w).alloc (Nat.le_refl _) _)
  have hc2 : W.cell? ⟨w.heap.size, 2, none⟩ = some (.slice A n cap) := by rw [← hW, World.cell?_alloc_new]; rfl
  rw [hW]
  clear hW
  go_loop [6] (fun i => ∃ k : Nat, k ≤ n ∧ i = .int .i64 k) (fun i => n - (Lib.intOf i).toNat)
  case atStart => exact ⟨0, Nat.zero_le _, rfl⟩
  case round =>
    obtain ⟨j, hj, rfl⟩ := hrel
    by_cases hlt : j < n
    · obtain ⟨b, o, rfl, hb, h0, h1⟩ := hat.out j (by rw [hn.out]; exact hlt)
      have hi0 : (0 : Int) ≤ (j : Int) := by omega
      have hi1 : (j : Int) < (n : Int) := by omega
      obtain ⟨s0, hs0⟩ : ∃ s, (al[j]'(by rw [hn.out]; exact hlt)).1 = s := ⟨_, rfl⟩
      obtain ⟨s1, hs1⟩ : ∃ s, (al[j]'(by rw [hn.out]; exact hlt)).2 = s := ⟨_, rfl⟩
      rw [hs0] at h0
      rw [hs1] at h1
      have g0 : W.cell? ⟨b, o + j * 2, none⟩ = some (.string s0) := (hB.out.cell (p := ⟨b, o + j * 2, none⟩) hb).trans h0
      have g1 : W.cell? ⟨b, o + j * 2 + 1, none⟩ = some (.string s1) := (hB.out.cell (p := ⟨b, o + j * 2 + 1, none⟩) hb).trans h1
      clear hs0 hs1 h0 h1
      go_wp2
      all_goals first
        | (go_ret2
           exact ⟨⟨s1, true, rfl⟩, hB.out⟩)
        | exact ⟨⟨j + 1, by omega, by simp⟩, by simp [Lib.intOf]; omega⟩
    · have hkn : j = n := by omega
      subst hkn
      go_wp2
      go_ret2
      exact ⟨⟨⟨#[]⟩, false, rfl⟩, hB.out⟩
end
end Go.Proofs.YtghlodpbbghcoaaGreatDoor.Nd

/- Rows of nodes that are being made; Cut, Few: walked. -/
namespace Go.Proofs.YtghlodpbbghcoaaGreatDoor.Nd
section
open Go.Lib Go.RowKit
abbrev Fl := Int × ByteArray
/-- Flat nodes in memory: no name, no attributes, no kids. -/
def FlatAt (w : World) (b o : Nat) (ns : List Fl) : Prop :=
  ∀ i (h : i < ns.length), w.cell? ⟨b, o + i * 5, none⟩ = some (.int .i64 ns[i].1) ∧ w.cell? ⟨b, o + i * 5 + 1, none⟩ = some (.string ⟨#[]⟩) ∧ w.cell? ⟨b, o + i * 5 + 2, none⟩ = some (.slice none 0 0) ∧ w.cell? ⟨b, o + i * 5 + 3, none⟩ = some (.string ns[i].2) ∧ w.cell? ⟨b, o + i * 5 + 4, none⟩ = some (.slice none 0 0)
theorem FlatAt.below {w w' : World} {b o : Nat} {ns : List Fl} (h : FlatAt w b o ns) (hb : b < w.heap.size) (hB : Below w.heap.size w w') : FlatAt w' b o ns := fun i hi => by
  obtain ⟨h0, h1, h2, h3, h4⟩ := h i hi
  exact ⟨(hB.cell (p := ⟨b, _, none⟩) hb).trans h0, (hB.cell (p := ⟨b, _, none⟩) hb).trans h1, (hB.cell (p := ⟨b, _, none⟩) hb).trans h2, (hB.cell (p := ⟨b, _, none⟩) hb).trans h3, (hB.cell (p := ⟨b, _, none⟩) hb).trans h4⟩
theorem own_below {w w' : World} {base : Nat} {e : TypeId} {size n : Nat} {v : Value} {xs : List Value} (h : w.ownsRow base e size v n xs) (hb : Below w.heap.size w w') : w'.ownsRow base e size v n xs := by
  obtain ⟨h1, h2⟩ := h
  refine ⟨h1, ?_⟩
  rcases h2 with h2 | ⟨g, cap, cur, h3, h4, h5, h6⟩
  · exact Or.inl h2
  · exact Or.inr ⟨g, cap, cur, h3, h4, blk_below h5 hb (blk_lt h5), h6⟩
theorem info28 : (Tryz.prog.info? 44).map (fun i => (i.zero, i.size, i.bytes)) = some (some (.agg #[.int .i64 0, .string ⟨#[]⟩, .slice none 0 0, .string ⟨#[]⟩, .slice none 0 0]), 5, 88) := by kernel_rfl
end
section
open Go.Lib Go.RowKit
def attrCells (al : List (ByteArray × ByteArray)) : List Value := al.flatMap fun p => [.string p.1, .string p.2]
theorem attrCells_length : ∀ l : List (ByteArray × ByteArray), (attrCells l).length = l.length * 2
  | [] => rfl
  | p :: t => by
    have := attrCells_length t
    simp only [attrCells, List.flatMap_cons, List.length_append, List.length_cons, List.length_nil] at this ⊢
    omega
theorem attrCells_snoc (l : List (ByteArray × ByteArray)) (p : ByteArray × ByteArray) : attrCells (l ++ [p]) = attrCells l ++ [.string p.1, .string p.2] := by simp [attrCells]
theorem nCells_snoc (l : List NCells) (c : NCells) : nCells (l ++ [c]) = nCells l ++ [.int .i64 c.kind, .string c.name, c.va, .string c.text, c.vk] := by simp [nCells, NCells.list]
theorem attrCells_at : ∀ (l : List (ByteArray × ByteArray)) (i : Nat) (h : i < l.length) (j : Nat), j < 2 → (attrCells l)[i * 2 + j]? = [Value.string l[i].1, .string l[i].2][j]?
  | p :: r, 0, h, j, hj => by
    show ([Value.string p.1, .string p.2] ++ attrCells r)[0 * 2 + j]? = _
    rw [Nat.zero_mul, Nat.zero_add, List.getElem?_append_left (by simpa using hj)]
    rfl
  | p :: r, i + 1, h, j, hj => by
    show ([Value.string p.1, .string p.2] ++ attrCells r)[(i + 1) * 2 + j]? = _
    rw [List.getElem?_append_right (by simp; omega), show (i + 1) * 2 + j - [Value.string p.1, .string p.2].length = i * 2 + j by simp; omega, attrCells_at r i (by simpa using h) j hj]
    rfl
theorem own_attrs {w : World} {base : Nat} {v : Value} {al : List (ByteArray × ByteArray)} (h : w.ownsRow base 100 2 v al.length (attrCells al)) : ARow w (fun k => v.ownBlock = some k) v al := by
  rcases h.2 with ⟨rfl, h0⟩ | ⟨g, cap, cur, rfl, hb0, hb, h1, h2, h3, h4⟩
  · have : al = [] := List.eq_nil_of_length_eq_zero h0
    subst this
    exact ⟨none, 0, rfl, Nat.le_refl _, fun j hj => absurd hj (Nat.not_lt_zero _)⟩
  · refine ⟨_, cap, rfl, h1, fun i hi => ⟨g, 0, rfl, rfl, ?_⟩⟩
    have hl := attrCells_length al
    have e2 : ∀ j, j < 2 → w.cell? ⟨g, 0 + i * 2 + j, none⟩ = [Value.string al[i].1, .string al[i].2][j]? := by
      intro j hj
      have e3 : w.cell? ⟨g, 0 + i * 2 + j, none⟩ = cur[0 + i * 2 + j]? := by simp [World.cell?, hb]
      rw [e3, ← attrCells_at al i hi j hj, ← h4, List.getElem?_take, if_pos (by omega), Array.getElem?_toList, Nat.zero_add]
    exact ⟨e2 0 (by decide), e2 1 (by decide)⟩
theorem own_nodes {w : World} {base : Nat} {v : Value} {l : List NCells} {P Q : Nat → Prop} (h : w.ownsRow base 44 5 v l.length (nCells l)) (hf : ∀ c ∈ l, c.Fine w P) (hq : ∀ k, P k → Q k) (hv : ∀ k, v.ownBlock = some k → Q k) :
    ∃ A cap, v = .slice A l.length cap ∧ l.length ≤ cap ∧ (0 < l.length → ∃ b, A = some ⟨b, 0, none⟩ ∧ base ≤ b ∧ b < w.heap.size ∧ NRow w Q b 0 (nFo l)) := by
  rcases h.2 with ⟨rfl, h0⟩ | ⟨g, cap, cur, rfl, hb0, hb, h1, h2, h3, h4⟩
  · rw [h0]
    exact ⟨none, 0, rfl, Nat.le_refl _, fun hj => absurd hj (Nat.lt_irrefl _)⟩
  · refine ⟨_, cap, rfl, h1, fun hj => ⟨g, rfl, hb0, (Array.getElem?_eq_some_iff.1 hb).1, nRow_of (hv g rfl) hq l 0 hf (fun j hj => ?_)⟩⟩
    have e3 : w.cell? ⟨g, 0 + j, none⟩ = cur[0 + j]? := by simp [World.cell?, hb]
    have hl := nCells_length l
    rw [e3, ← h4, List.getElem?_take, if_pos (by omega), Array.getElem?_toList, Nat.zero_add]
theorem nFo_append : ∀ (a b : List NCells), (nFo (a ++ b)).size = (nFo a).size + (nFo b).size
  | [], b => by simp [nFo, Fo.size]
  | c :: a, b => by
    rw [List.cons_append, nFo, nFo, Fo.size, Fo.size, nFo_append a b]
    omega
theorem nFo_snoc (a : List NCells) (c : NCells) : (nFo (a ++ [c])).size = (nFo a).size + (1 + c.kids.size) := by
  rw [nFo_append]
  rfl
def NewB (w w' : World) (k : Nat) : Prop := w.heap.size ≤ k ∧ k < w'.heap.size
theorem Stays.below {P : Nat → Prop} {w w' : World} {n : Nat} (h : Below n w w') (hp : ∀ k, P k → k < n) : Stays P w w' := fun k hk => h.block k (hp k hk)
theorem Stays.set {P : Nat → Prop} {w : World} {p : Addr} (hp : ¬ P p.block) (u : Value) : Stays P w (w.setCell p u) := fun k hk => Below.heap_setCell w p u k (fun e => hp (e ▸ hk))
theorem Stays.alloc {P : Nat → Prop} {w : World} (hp : ∀ k, P k → k < w.heap.size) (o : Obj) : Stays P w (w.alloc o) := fun k hk => Below.heap_alloc w o k (hp k hk)
theorem Stays.grown {P : Nat → Prop} {w w' : World} {row : Option Nat} (hg : w.grownBy w' row) (hp : ∀ k, P k → k < w.heap.size ∧ row ≠ some k) : Stays P w w' := fun k hk => hg.block k (hp k hk).1 (Ne.symm (hp k hk).2)
theorem Stays.trans {P : Nat → Prop} {a b c : World} (h : Stays P a b) (k : Stays P b c) : Stays P a c := fun x hx => (k x hx).trans (h x hx)
/-- A row of nodes that is being made. -/
structure RowInv (w wr : World) (v : Value) (l : List NCells) : Prop where
  own : wr.ownsRow w.heap.size 44 5 v l.length (nCells l)
  kids : ∃ P : Nat → Prop, (∀ c ∈ l, c.Fine wr P) ∧ (∀ k, P k → NewB w wr k) ∧ (∀ k, P k → v.ownBlock ≠ some k)
  below : Below w.heap.size w wr
theorem RowInv.nil (w : World) : RowInv w w (.slice none 0 0) [] := ⟨World.ownsRow_nil _ _ _ _, ⟨fun _ => False, fun c hc => absurd hc (by simp), fun k h => h.elim, fun k h => h.elim⟩, Below.refl _ _⟩
theorem RowInv.fineKids {w wr : World} {v : Value} {l : List NCells} (h : RowInv w wr v l) :
    ∃ (A : Option Addr) (n cap : Nat), v = .slice A n cap ∧ n = (nFo l).len ∧ n ≤ cap ∧ (0 < n → ∃ b o, A = some ⟨b, o, none⟩ ∧ NRow wr (NewB w wr) b o (nFo l)) := by
  obtain ⟨h1, ⟨P, h2, h3, h4⟩, h5⟩ := h
  obtain ⟨A, cap, rfl, hc, hk⟩ := own_nodes (Q := NewB w wr) h1 h2 h3 (fun k hk => h1.lt k hk)
  exact ⟨A, _, cap, rfl, (nFo_len l).symm, hc, fun hp => by obtain ⟨b, e, _, _, hr⟩ := hk hp; exact ⟨b, 0, e, hr⟩⟩
theorem RowInv.carry {w wr w7 : World} {v : Value} {l : List NCells} (h : RowInv w wr v l) (hB : Below wr.heap.size wr w7) : RowInv w w7 v l := by
  obtain ⟨h1, ⟨P, h2, h3, h4⟩, h5⟩ := h
  exact ⟨own_below h1 hB, ⟨P, fun c hc => (h2 c hc).move (Stays.below hB (fun k hk => (h3 k hk).2)) (fun _ h => h), fun k hk => ⟨(h3 k hk).1, Nat.lt_of_lt_of_le (h3 k hk).2 hB.size⟩, h4⟩, h5.trans (hB.mono h5.size)⟩
theorem RowInv.push {w w7 w8 : World} {v v' : Value} {l : List NCells} {c : NCells} {o : Obj} {X : Nat} (h : RowInv w w7 v l) (hX : w.heap.size ≤ X) (hvX : ∀ k, v.ownBlock = some k → k < X)
    (hc : c.Fine w7 (fun k => X ≤ k ∧ k < w7.heap.size)) (hown : w8.ownsRow w.heap.size 44 5 v' (l.length + 1) (nCells l ++ c.list)) (hg : (w7.alloc o).grownBy w8 v.ownBlock)
    (hat : v'.ownBlock = v.ownBlock ∨ v'.ownBlock = some (w7.alloc o).heap.size) : RowInv w w8 v' (l ++ [c]) := by
  obtain ⟨h1, ⟨P, h2, h3, h4⟩, h5⟩ := h
  have hs : w7.heap.size ≤ w8.heap.size := Nat.le_trans (by simp) hg.size
  have hlt := h1.lt
  have key : ∀ {Q : Nat → Prop}, (∀ k, Q k → k < w7.heap.size ∧ v.ownBlock ≠ some k) → Stays Q w7 w8 := fun hQ => (Stays.alloc (fun k hk => (hQ k hk).1) o).trans (Stays.grown hg (fun k hk => ⟨Nat.lt_of_lt_of_le (hQ k hk).1 (by simp), (hQ k hk).2⟩))
  have hq : ∀ k, (X ≤ k ∧ k < w7.heap.size) → v.ownBlock ≠ some k := fun k hk e => by have := hvX k e; omega
  refine ⟨?_, ⟨fun k => P k ∨ (X ≤ k ∧ k < w7.heap.size), ?_, ?_, ?_⟩, ?_⟩
  · rw [nCells_snoc, List.length_append]
    exact hown
  · intro d hd
    rcases List.mem_append.1 hd with hd | hd
    · exact (h2 d hd).move (key (fun k hk => ⟨(h3 k hk).2, h4 k hk⟩)) (fun _ h => .inl h)
    · rw [List.mem_singleton.1 hd]
      exact hc.move (key (fun k hk => ⟨hk.2, hq k hk⟩)) (fun _ h => .inr h)
  · rintro k (hk | hk)
    · exact ⟨(h3 k hk).1, Nat.lt_of_lt_of_le (h3 k hk).2 hs⟩
    · exact ⟨Nat.le_trans hX hk.1, Nat.lt_of_lt_of_le hk.2 hs⟩
  · intro k hk e
    rcases hat with e2 | e2
    · rw [e2] at e
      rcases hk with hk | hk
      · exact h4 k hk e
      · exact hq k hk e
    · rw [e2] at e
      cases e
      rcases hk with hk | hk
      · have := (h3 _ hk).2; simp at this; omega
      · have := hk.2; simp at this; omega
  · exact (h5.alloc h5.size o).grown hg (by have := h5.size; simp; omega) (fun j hj => (hlt j hj).1)
end
section
open Go.Lib Go.RowKit
theorem info56 : (Tryz.prog.info? 100).map (fun i => (i.zero, i.size, i.bytes)) = some (some (.agg #[.string ⟨#[]⟩, .string ⟨#[]⟩]), 2, 32) := by kernel_rfl
/-- What the cut nodes are: fresh, small, so many at most. -/
def smallA (al : List (ByteArray × ByteArray)) : Prop := al.length ≤ 5 ∧ ∀ p ∈ al, p.1.size ≤ 30 ∧ p.2.size ≤ 30
def smallF : Fo → Prop
  | .nil => True
  | .node _ nm al tx kids rest => nm.size ≤ 30 ∧ tx.size ≤ 30 ∧ smallA al ∧ smallF kids ∧ smallF rest
theorem smallF_snoc : ∀ (l : List NCells) (c : NCells), smallF (nFo l) → c.name.size ≤ 30 → c.text.size ≤ 30 → smallA c.attrs → smallF c.kids → smallF (nFo (l ++ [c]))
  | [], c, _, h1, h2, h3, h4 => ⟨h1, h2, h3, h4, trivial⟩
  | d :: l, c, ⟨g1, g2, g3, g4, g5⟩, h1, h2, h3, h4 => ⟨g1, g2, g3, g4, smallF_snoc l c g5 h1 h2 h3 h4⟩
def CutPost (w : World) (most : Nat) (e : Ending) (w' : World) : Prop :=
  ∃ (v : Value) (l : List NCells) (m : Nat), e = .returned (.tuple #[v, .int .i64 m]) ∧ RowInv w w' v l ∧ smallF (nFo l) ∧ (nFo l).size + m ≤ most
theorem Fo.drop_in : ∀ (f : Fo) (i : Nat) (q : Bool), f.In → (Fo.drop q f i).2.In
  | f, 0, q, h => by simpa [Fo.drop] using h
  | .nil, i + 1, q, h => trivial
  | .node _ _ _ _ _ rest, i + 1, q, h => by rw [Fo.drop]; exact Fo.drop_in rest i _ h.2.2.2.2.2.2
theorem Fo.drop_size : ∀ (f : Fo) (i : Nat) (q : Bool), (Fo.drop q f i).2.size ≤ f.size
  | f, 0, q => by simp [Fo.drop]
  | .nil, i + 1, q => by simp [Fo.drop]
  | .node k _ _ _ _ rest, i + 1, q => by rw [Fo.drop, Fo.size]; have := Fo.drop_size rest i (decide (k = 2)); omega
/-- WHAT Cut DOES AT NODES. -/
def CutOk (g : Fo) : Prop := ∀ (A : Option Addr) (cap most : Nat) (B : Nat) (w : World), g.In → g.len ≤ cap → g.len ≤ maxLen → most ≤ 40 → B ≤ w.heap.size → (0 < g.len → ∃ b o, A = some ⟨b, o, none⟩ ∧ RowAt w B b o g) → Calls Tryz.prog 72 #[.slice A g.len cap, .int .i64 most] w (CutPost w most)
set_option maxRecDepth 100000 in
set_option maxHeartbeats 6400000 in
theorem cut_step (f : Fo) (ih : ∀ g : Fo, g.size < f.size → CutOk g) : CutOk f := by
  intro A cap most B w hf hcap hfl hm hBw hrow
  obtain ⟨i0, hi, hz0, hz1, hz2⟩ := info_parts info28
  obtain ⟨i1, hj, hy0, hy1, hy2⟩ := info_parts info56
  obtain ⟨n, hn⟩ : ∃ n, f.len = n := ⟨_, rfl⟩
  rw [hn] at hcap hrow hfl ⊢
  replace hn := Lib.hid hn
  replace ih := Lib.hid ih
  have hfl2 : n ≤ 9223372036854775807 := hfl
  go_enter Tryz.func72, Tryz.ntmps72
  go_wp2
  go_loopw [1, 6, 7] (fun x1 v x7 wr => ∃ (i m : Nat) (l : List NCells), i ≤ n ∧ x7 = .int .i64 i ∧ x1 = .int .i64 m ∧ Hid ((nFo l).size + m ≤ most) ∧ m + l.length ≤ most ∧ Hid (smallF (nFo l)) ∧ Hid (RowInv w wr v l)) (fun _ _ x7 _ => n - (Lib.intOf x7).toNat)
  case atStart => exact ⟨0, most, [], Nat.zero_le _, rfl, rfl, Lib.hid (by simp [nFo, Fo.size]), by simp, Lib.hid trivial, Lib.hid (RowInv.nil w)⟩
  case round =>
    obtain ⟨i, m, l, hin, rfl, rfl, hsz, hml, hsm, hinv⟩ := hrel
    by_cases hlt : i < n ∧ 0 < m
    · obtain ⟨hlt, hm0⟩ := hlt
      obtain ⟨b, o, rfl, hr⟩ := hrow (by omega)
      have hdl := Fo.drop_len f i false
      have hdr := RowAt.drop i false hr
      have hI := Fo.drop_in f i false hf
      have hks := Fo.drop_size f i false
      cases hd : Fo.drop false f i with
      | mk q g =>
      rw [hd] at hdl hdr hI hks
      cases g with
      | nil => exfalso; have := hn.out; simp only [Fo.len] at hdl; omega
      | node kd nm al tx kids rest =>
      obtain ⟨hb, h0, h1, ⟨va, h2, ⟨Aa, capa, rfl, hca, hat⟩⟩, h3, ⟨A4, cap4, h4, hc4, hk4⟩, _⟩ := hdr
      obtain ⟨_, hao, hal, _, hkl, hkI, _⟩ := hI
      have hks2 : kids.size < f.size := by simp only [Fo.size] at hks; omega
      have hB := hinv.out.below
      have hbw : b < w.heap.size := Nat.lt_of_lt_of_le hb hBw
      have c0 := (hB.cell (p := ⟨b, o + i * 5, none⟩) hbw).trans h0
      have c1 := (hB.cell (p := ⟨b, o + i * 5 + 1, none⟩) hbw).trans h1
      have c2 := (hB.cell (p := ⟨b, o + i * 5 + 2, none⟩) hbw).trans h2
      have c3 := (hB.cell (p := ⟨b, o + i * 5 + 3, none⟩) hbw).trans h3
      have c4 := (hB.cell (p := ⟨b, o + i * 5 + 4, none⟩) hbw).trans h4
      obtain ⟨m', hm'⟩ : ∃ m', m = m' + 1 := ⟨m - 1, by omega⟩
      have hm1 : (m : Int) - 1 = (m' : Int) := by omega
      have hm2 : (0 : Int) < (m : Int) := by omega
      have hi0 : (0 : Int) ≤ (i : Int) := by omega
      have hi1 : (i : Int) < (n : Int) := by omega
      replace hm' := Lib.hid hm'
      obtain ⟨na, hna⟩ : ∃ na, al.length = na := ⟨_, rfl⟩
      obtain ⟨nk, hnk⟩ : ∃ nk, kids.len = nk := ⟨_, rfl⟩
      rw [hna] at c2 hca hal
      rw [hnk] at c4 hc4 hkl
      replace hna := Lib.hid hna
      replace hnk := Lib.hid hnk
      replace hat := Lib.hid hat
      replace hk4 := Lib.hid hk4
      replace hao := Lib.hid hao
      clear h0 h1 h2 h3 h4 hdl hr hd hks
      go_upto_region 7 with fail
      obtain ⟨W1, hW1⟩ : ∃ W1, wr.alloc (.cells #[.int .i64 kd, .string nm, .slice Aa na capa, .string tx, .slice A4 nk cap4] 44) = W1 := ⟨_, rfl⟩
      have hX1 : W1.heap[wr.heap.size]? = some (.cells #[.int .i64 kd, .string nm, .slice Aa na capa, .string tx, .slice A4 nk cap4] 44) := by rw [← hW1]; exact blk_new _ _
      have hB1 : Hid (Below wr.heap.size wr W1) := Lib.hid (by rw [← hW1]; exact (Below.refl _ _).alloc (Nat.le_refl _) _)
      rw [hW1]
      obtain ⟨X, hX⟩ : ∃ X, wr.heap.size = X := ⟨_, rfl⟩
      rw [hX] at hX1 ⊢
      replace hX := Lib.hid hX
      clear hW1 c0 c1 c2 c3 c4 hB
      have d1 : W1.cell? ⟨X, 1, none⟩ = some (.string nm) := blk_cell hX1 1
      have f1 := blk_frozen hX1 1
      go_upto_region 8 with (go_at_call 99; refine (few30_any _ _).mono ?_; rintro e w2 ⟨rfl, rfl⟩)
      obtain ⟨nm2, hnm2⟩ : ∃ s, cut30 nm = s := ⟨_, rfl⟩
      have hz1' : Hid (nm2.size ≤ 30) := Lib.hid (by rw [← hnm2]; exact cut30_size nm)
      rw [hnm2]
      obtain ⟨W2, hW2⟩ : ∃ W2, w2.setCell ⟨X, 1, none⟩ (.string nm2) = W2 := ⟨_, rfl⟩
      have hX2 : W2.heap[X]? = some (.cells #[.int .i64 kd, .string nm2, .slice Aa na capa, .string tx, .slice A4 nk cap4] 44) := by rw [← hW2]; exact blk_set_self hX1 1 _
      have hB2 : Hid (Below X wr W2) := Lib.hid (by have := hB1.out; rw [hX.out] at this; rw [← hW2]; exact this.setCell (p := ⟨X, 1, none⟩) (Nat.le_refl _) _)
      rw [hW2]
      clear hW2 d1 f1 hX1 hB1 hnm2
      have d3 : W2.cell? ⟨X, 3, none⟩ = some (.string tx) := blk_cell hX2 3
      have f3 := blk_frozen hX2 3
      go_upto_region 9 with (go_at_call 99; refine (few30_any _ _).mono ?_; rintro e w3 ⟨rfl, rfl⟩)
      obtain ⟨tx2, htx2⟩ : ∃ s, cut30 tx = s := ⟨_, rfl⟩
      have hz3' : Hid (tx2.size ≤ 30) := Lib.hid (by rw [← htx2]; exact cut30_size tx)
      rw [htx2]
      obtain ⟨W3, hW3⟩ : ∃ W3, w3.setCell ⟨X, 3, none⟩ (.string tx2) = W3 := ⟨_, rfl⟩
      have hX3 : W3.heap[X]? = some (.cells #[.int .i64 kd, .string nm2, .slice Aa na capa, .string tx2, .slice A4 nk cap4] 44) := by rw [← hW3]; exact blk_set_self hX2 3 _
      have hB3 : Hid (Below X wr W3) := Lib.hid (by rw [← hW3]; exact hB2.out.setCell (p := ⟨X, 3, none⟩) (Nat.le_refl _) _)
      rw [hW3]
      clear hW3 d3 f3 hX2 hB2 htx2
      have hXw : Hid (X < W3.heap.size) := Lib.hid (blk_lt hX3)
      have hwX : Hid (w.heap.size ≤ X) := Lib.hid (by rw [← hX.out]; exact hinv.out.below.size)
      have d4 : W3.cell? ⟨X, 4, none⟩ = some (.slice A4 nk cap4) := blk_cell hX3 4
      have hcall : Calls Tryz.prog 72 #[.slice A4 nk cap4, .int .i64 m'] W3 (CutPost W3 m') := by
        rw [← hnk.out]
        refine ih.out kids hks2 A4 cap4 m' B W3 hkI (by rw [hnk.out]; exact hc4) (by rw [hnk.out]; exact hkl) (by have := hm'.out; omega) (by have := hXw.out; have := hwX.out; omega) (fun hp => ?_)
        obtain ⟨b', o', e, hr'⟩ := hk4.out hp
        exact ⟨b', o', e, (hr'.below (hinv.out.below.mono hBw)).below (hB3.out.mono (by have := hwX.out; omega))⟩
      obtain ⟨v, hv⟩ : ∃ v, v = u6 := ⟨_, rfl⟩
      rw [← hv] at hinv ⊢
      clear hv
      obtain ⟨wo, rfl⟩ : ∃ wo, wo = wr := ⟨_, rfl⟩
      go_upto_region 12 with (go_at_call 72; refine hcall.mono ?_; rintro e w4 ⟨v2, l2, m2, rfl, hi2, hs2, hz2'⟩; obtain ⟨A2, n2, cap2, rfl, hn2, hc2, hk2⟩ := hi2.fineKids; have hX4 := blk_below hX3 hi2.below hXw.out; have e4 := blk_cell hX4 4; have f4 := blk_frozen hX4 4; replace hn2 := Lib.hid hn2; replace hk2 := Lib.hid hk2)
      obtain ⟨W5, hW5⟩ : ∃ W5, w4.setCell ⟨X, 4, none⟩ (.slice A2 n2 cap2) = W5 := ⟨_, rfl⟩
      have hX5 : Hid (W5.heap[X]? = some (.cells #[.int .i64 kd, .string nm2, .slice Aa na capa, .string tx2, .slice A2 n2 cap2] 44)) := Lib.hid (by rw [← hW5]; exact blk_set_self hX4 4 _)
      have hB5 : Hid (Below X wo W5) := Lib.hid (by rw [← hW5]; exact (hB3.out.trans (hi2.below.mono (Nat.le_of_lt hXw.out))).setCell (p := ⟨X, 4, none⟩) (Nat.le_refl _) _)
      have hK5 : Hid (0 < n2 → ∃ b o, A2 = some ⟨b, o, none⟩ ∧ NRow W5 (fun k => X < k ∧ k < W5.heap.size) b o (nFo l2)) := Lib.hid (fun hp => by
        obtain ⟨b', o', e, hr'⟩ := hk2.out hp
        refine ⟨b', o', e, hr'.move ?_ ?_⟩
        · rw [← hW5]
          exact Stays.set (fun h => by have h1 : W3.heap.size ≤ X := h.1; have := hXw.out; omega) _
        · intro k hk
          refine ⟨Nat.lt_of_lt_of_le hXw.out hk.1, ?_⟩
          rw [← hW5]
          simpa using hk.2)
      have hXw5 : Hid (X < W5.heap.size) := Lib.hid (blk_lt hX5.out)
      rw [hW5]
      clear hW5 e4 f4 hX4 hk2 d4 hcall hX3
      replace hc2 := Lib.hid hc2
      replace hi2 := Lib.hid hi2
      replace hs2 := Lib.hid hs2
      go_loopw [9, 10] (fun va' x10 wr => ∃ (k : Nat) (al' : List (ByteArray × ByteArray)), k ≤ na ∧ k ≤ 5 ∧ x10 = .int .i64 k ∧ Hid (al'.length = k) ∧ Hid (∀ p ∈ al', p.1.size ≤ 30 ∧ p.2.size ≤ 30) ∧ Hid (wr.ownsRow W5.heap.size 100 2 va' k (attrCells al')) ∧ Hid (Below W5.heap.size W5 wr)) (fun _ x10 _ => 5 - (Lib.intOf x10).toNat)
      case atStart => exact ⟨0, [], Nat.zero_le _, Nat.zero_le _, rfl, Lib.hid rfl, Lib.hid (fun p hp => absurd hp (by simp)), Lib.hid (World.ownsRow_nil _ _ _ _), Lib.hid (Below.refl _ _)⟩
      case round =>
        obtain ⟨k, al', hk1, hk5, rfl, hlk, hsa, hoa, hBa⟩ := hrel
        have hX6 : wr.heap[X]? = _ := blk_below hX5.out hBa.out hXw5.out
        have g0 : wr.cell? ⟨X, 0, none⟩ = some (.int .i64 kd) := blk_cell hX6 0
        have g1 : wr.cell? ⟨X, 1, none⟩ = some (.string nm2) := blk_cell hX6 1
        have g2 : wr.cell? ⟨X, 2, none⟩ = some (.slice Aa na capa) := blk_cell hX6 2
        have g3 : wr.cell? ⟨X, 3, none⟩ = some (.string tx2) := blk_cell hX6 3
        have g4 : wr.cell? ⟨X, 4, none⟩ = some (.slice A2 n2 cap2) := blk_cell hX6 4
        have gf := blk_frozen hX6 2
        by_cases hkk : k < na ∧ k < 5
        · obtain ⟨hka, hk5'⟩ := hkk
          have hBw' : Hid (Below w.heap.size w wr) := Lib.hid (hinv.out.below.trans ((hB5.out.mono hwX.out).trans (hBa.out.mono (by have := hwX.out; have := hXw5.out; omega))))
          obtain ⟨b2, o2, rfl, hb2, h5, h6⟩ := hat.out k (by rw [hna.out]; exact hka)
          obtain ⟨s0, hs0⟩ : ∃ s, (al[k]'(by rw [hna.out]; exact hka)).1 = s := ⟨_, rfl⟩
          obtain ⟨s1, hs1⟩ : ∃ s, (al[k]'(by rw [hna.out]; exact hka)).2 = s := ⟨_, rfl⟩
          rw [hs0] at h5
          rw [hs1] at h6
          have hb2w : b2 < w.heap.size := Nat.lt_of_lt_of_le hb2 hBw
          have q5 : wr.cell? ⟨b2, o2 + k * 2, none⟩ = some (.string s0) := (hBw'.out.cell (p := ⟨b2, _, none⟩) hb2w).trans h5
          have q6 : wr.cell? ⟨b2, o2 + k * 2 + 1, none⟩ = some (.string s1) := (hBw'.out.cell (p := ⟨b2, _, none⟩) hb2w).trans h6
          have hk0 : (0 : Int) ≤ (k : Int) := by omega
          have hk3 : (k : Int) < (na : Int) := by omega
          have hb5 : Hid (b2 < W5.heap.size) := Lib.hid (Nat.lt_of_lt_of_le hb2w (Nat.le_trans hwX.out (Nat.le_of_lt hXw5.out)))
          have hBw5 : Hid (Below w.heap.size w W5) := Lib.hid (hinv.out.below.trans (hB5.out.mono hwX.out))
          have p5 : Hid (W5.cell? ⟨b2, o2 + k * 2, none⟩ = some (.string s0)) := Lib.hid ((hBw5.out.cell (p := ⟨b2, _, none⟩) hb2w).trans h5)
          have p6 : Hid (W5.cell? ⟨b2, o2 + k * 2 + 1, none⟩ = some (.string s1)) := Lib.hid ((hBw5.out.cell (p := ⟨b2, _, none⟩) hb2w).trans h6)
          clear h5 h6 hs0 hs1
          go_upto_region 14 with fail
          have hbX : b2 < wr.heap.size := Nat.lt_of_lt_of_le hb2w hBw'.out.size
          have hXr := blk_lt hX6
          have hS2 : ∀ o, (wr.alloc o).cell? ⟨X, 2, none⟩ = some (.slice (some ⟨b2, o2, none⟩) na capa) := fun o => (World.cell?_alloc_lt (a := ⟨X, 2, none⟩) wr o hXr).trans g2
          have hS5 : ∀ o, (wr.alloc o).cell? ⟨b2, o2 + k * 2, none⟩ = some (.string s0) := fun o => (World.cell?_alloc_lt (a := ⟨b2, o2 + k * 2, none⟩) wr o hbX).trans q5
          have hS6 : ∀ o, (wr.alloc o).cell? ⟨b2, o2 + k * 2 + 1, none⟩ = some (.string s1) := fun o => (World.cell?_alloc_lt (a := ⟨b2, o2 + k * 2 + 1, none⟩) wr o hbX).trans q6
          replace hbX := Lib.hid hbX
          replace hXr := Lib.hid hXr
          go_region_held3 (fun w' => w'.cell? ⟨X, 2, none⟩ = some (.slice (some ⟨b2, o2, none⟩) na capa) ∧ w'.cell? ⟨b2, o2 + k * 2, none⟩ = some (.string s0) ∧ w'.cell? ⟨b2, o2 + k * 2 + 1, none⟩ = some (.string s1)) (first | exact ⟨g2, q5, q6⟩ | exact ⟨hS2 _, hS5 _, hS6 _⟩ | exact ⟨r2, r5, r6⟩)
            (first
              | (go_at_call 99; refine (few30_any _ _).mono ?_; rintro e w6 ⟨rfl, rfl⟩)
              | (refine step_append_lies _ (by rfl) _ _ _ (by rfl) W5.heap.size 100 i1 _ 2 32 Tryz.underlying42 hj hy0 hy1 hy2 rfl (by decide) u9 k _ (by rfl) (hoa.out.alloc _).drew ⟨_, 0, none⟩ 1 1 [.string (cut30 s0), .string (cut30 s1)] (by rfl) (by rfl) (cells_new _ _ _) (by intro u hu; simp at hu; rcases hu with rfl | rfl <;> rfl) (by omega) (by unfold maxLen; omega) (by omega) (by have := hBa.out.size; simp; omega) _ rfl ?_
                 intro ga ca w7 hown7 hg7 hat7 hlt7
                 have hB7 : Hid (Below W5.heap.size W5 w7) := Lib.hid ((hBa.out.alloc hBa.out.size _).drew.grown hg7 (by have := hBa.out.size; simp; omega) (fun j hj => (hoa.out.lt j hj).1))
                 have r2 : w7.cell? ⟨X, 2, none⟩ = some (.slice (some ⟨b2, o2, none⟩) na capa) := blk_cell (blk_below hX5.out hB7.out hXw5.out) 2
                 have r5 : w7.cell? ⟨b2, o2 + k * 2, none⟩ = some (.string s0) := (hB7.out.cell (p := ⟨b2, _, none⟩) hb5.out).trans p5.out
                 have r6 : w7.cell? ⟨b2, o2 + k * 2 + 1, none⟩ = some (.string s1) := (hB7.out.cell (p := ⟨b2, _, none⟩) hb5.out).trans p6.out))
          all_goals go_wp2_with fail
          all_goals
            refine ⟨⟨k + 1, al' ++ [(cut30 s0, cut30 s1)], by omega, by omega, by simp, Lib.hid (by rw [List.length_append, hlk.out]; rfl), Lib.hid ?_, Lib.hid (by rw [attrCells_snoc]; exact hown7), hB7⟩, by simp [Lib.intOf]; omega⟩
            intro p hp
            rcases List.mem_append.1 hp with hp | hp
            · exact hsa.out p hp
            · rw [List.mem_singleton.1 hp]
              exact ⟨cut30_size _, cut30_size _⟩
        · have har := own_attrs (al := al') (by have := hoa.out; rwa [← hlk.out] at this)
          obtain ⟨Aq, capq, hu9, hcq, _⟩ := id har
          subst hu9
          replace har := Lib.hid har
          rw [hlk.out] at hcq hoa har ⊢
          replace hcq := Lib.hid hcq
          have hBt : Hid (Below X wo wr) := Lib.hid (hB5.out.trans (hBa.out.mono (Nat.le_of_lt hXw5.out)))
          go_upto_region 16 with fail
          all_goals
            obtain ⟨W7, hW7⟩ : ∃ W7, wr.setCell ⟨X, 2, none⟩ (.slice Aq k capq) = W7 := ⟨_, rfl⟩
            have hX7 : W7.heap[X]? = some (.cells #[.int .i64 kd, .string nm2, .slice Aq k capq, .string tx2, .slice A2 n2 cap2] 44) := by rw [← hW7]; exact blk_set_self hX6 2 _
            have hB7 : Hid (Below wo.heap.size wo W7) := Lib.hid (by rw [hX.out, ← hW7]; exact hBt.out.setCell (p := ⟨X, 2, none⟩) (Nat.le_refl _) _)
            have hs7 : Hid (W7.heap.size = wr.heap.size) := Lib.hid (by rw [← hW7]; simp)
            have hfine : Hid (NCells.Fine W7 (fun k => X ≤ k ∧ k < W7.heap.size) ⟨kd, nm2, al', tx2, nFo l2, .slice Aq k capq, .slice A2 n2 cap2⟩) := Lib.hid (by
              refine ⟨har.out.move ?_ ?_, A2, cap2, by rw [← hn2.out], by rw [← hn2.out]; exact hc2.out, fun hp => ?_⟩
              · rw [← hW7]
                exact Stays.set (fun h => by have := hoa.out.lt X h; have := hXw5.out; omega) _
              · intro x hx
                have := hoa.out.lt x hx
                have := hXw5.out
                exact ⟨by omega, by rw [hs7.out]; omega⟩
              · obtain ⟨b', o', e, hr'⟩ := hK5.out (by rw [hn2.out]; exact hp)
                refine ⟨b', o', e, hr'.move ((Stays.below hBa.out (fun x hx => hx.2)).trans ?_) ?_⟩
                · rw [← hW7]
                  exact Stays.set (fun h => Nat.lt_irrefl _ h.1) _
                · intro x hx
                  have := hBa.out.size
                  exact ⟨Nat.le_of_lt hx.1, by rw [hs7.out]; omega⟩)
            rw [hW7]
            clear hW7 g0 g1 g2 g3 g4 gf hX6
            have e0 := blk_cell hX7 0
            have e1 := blk_cell hX7 1
            have e2 := blk_cell hX7 2
            have e3 := blk_cell hX7 3
            have e4 := blk_cell hX7 4
            simp only [List.getElem?_toArray, List.getElem?_cons_zero, List.getElem?_cons_succ] at e0 e1 e2 e3 e4
            have hinv7 : Hid (RowInv w W7 v l) := Lib.hid (hinv.out.carry hB7.out)
            have hll : l.length ≤ 40 := by omega
            clear hX7
            go_wp2_with (at_builtin; refine wpList_append_own_at _ rfl _ _ 40 rfl w.heap.size 44 i0 _ 5 88 Tryz.underlying40 hi hz0 hz1 hz2 rfl (by decide) v l.length (nCells l) rfl (hinv7.out.own.alloc _) ⟨_, 0, none⟩ 1 1 [.int .i64 kd, .string nm2, .slice Aq k capq, .string tx2, .slice A2 n2 cap2] rfl rfl (cells_new _ _ _) (by intro u hu; simp at hu; rcases hu with rfl | rfl | rfl | rfl | rfl <;> rfl) (by unfold maxLen; omega) (by omega) (by have := hinv7.out.below.size; simp; omega) ?_; intro v' w8 hown' hg8 hnil8 hat8; go_frame)
            have hm3 := hm'.out
            refine ⟨⟨i + 1, m2, l ++ [⟨kd, nm2, al', tx2, nFo l2, .slice Aq k capq, .slice A2 n2 cap2⟩], by omega, by simp, rfl, Lib.hid ?_, by simp; omega, Lib.hid ?_, Lib.hid ?_⟩, by simp [Lib.intOf]; omega⟩
            · have := hsz.out
              rw [nFo_snoc]
              simp only
              omega
            · exact smallF_snoc _ _ hsm.out hz1'.out hz3'.out ⟨by rw [hlk.out]; exact hk5, hsa.out⟩ hs2.out
            · exact hinv7.out.push (c := ⟨kd, nm2, al', tx2, nFo l2, .slice Aq k capq, .slice A2 n2 cap2⟩) hwX.out (fun x hx => by rw [← hX.out]; exact (hinv.out.own.lt x hx).2) hfine.out hown' hg8 hat8
    · go_wp2
      all_goals go_ret2
      all_goals exact ⟨_, l, m, rfl, hinv.out, hsm.out, hsz.out⟩
theorem cut_ok (f : Fo) : CutOk f := by
  obtain ⟨n, hn⟩ : ∃ n, f.size = n := ⟨_, rfl⟩
  induction n using Nat.strongRecOn generalizing f with
  | _ n ih =>
    subst hn
    exact cut_step f (fun g hg => ih _ hg g rfl)
def FewPost (w : World) (e : Ending) (w' : World) : Prop := ∃ (v : Value) (l : List NCells), e = .returned v ∧ RowInv w w' v l ∧ smallF (nFo l) ∧ (nFo l).size ≤ 40
set_option maxRecDepth 8192 in
theorem few_any (f : Fo) (A : Option Addr) (cap : Nat) (B : Nat) (w : World) (hf : f.In) (hc : f.len ≤ cap) (hl : f.len ≤ maxLen) (hB : B ≤ w.heap.size) (hr : 0 < f.len → ∃ b o, A = some ⟨b, o, none⟩ ∧ RowAt w B b o f) :
    Calls Tryz.prog 39 #[.slice A f.len cap] w (FewPost w) := by
  have hcut := cut_ok f A cap 40 B w hf hc hl (Nat.le_refl _) hB hr
  obtain ⟨n, hn⟩ : ∃ n, f.len = n := ⟨_, rfl⟩
  rw [hn] at hcut ⊢
  clear hn hr hc hl
  go_enter Tryz.func39, Tryz.ntmps39
  go_wp2_with (go_at_call 72; refine hcut.mono ?_; rintro e w1 ⟨v, l, m, rfl, h1, h2, h3⟩)
  go_ret
  exact ⟨v, l, rfl, h1, h2, by omega⟩
end
end Go.Proofs.YtghlodpbbghcoaaGreatDoor.Nd

/- Merge of package strainerref03: walked. -/
namespace Go.Proofs.YtghlodpbbghcoaaGreatDoor.Nd
section
open Go.Lib Go.RowKit
def okN (k : Int) (nm : ByteArray) : Prop := nm.size ≤ 100 ∧ (k = 1 ∨ k = 2 ∨ k = 3) ∧ NotTag nm
def okA (al : List (ByteArray × ByteArray)) : Prop := al.length ≤ 5 ∧ ∀ p ∈ al, p.1.size ≤ 200 ∧ p.2.size ≤ 200
/-- Nodes of a size: texts of M bytes at most. -/
def okF (M : Nat) : Fo → Prop
  | .nil => True
  | .node k nm al tx kids rest => okN k nm ∧ okA al ∧ tx.size ≤ M ∧ okF M kids ∧ okF M rest
def okC (M : Nat) (c : NCells) : Prop := okN c.kind c.name ∧ okA c.attrs ∧ okF M c.kids
theorem okF.mono {M N : Nat} (h : M ≤ N) : ∀ {f : Fo}, okF M f → okF N f
  | .nil, _ => trivial
  | .node _ _ _ _ _ _, ⟨h1, h2, h3, h4, h5⟩ => ⟨h1, h2, Nat.le_trans h3 h, okF.mono h h4, okF.mono h h5⟩
theorem okC.mono {M N : Nat} (h : M ≤ N) {c : NCells} (hc : okC M c) : okC N c := ⟨hc.1, hc.2.1, hc.2.2.mono h⟩
/-- No texts side by side (was there one ahead?). -/
def noTw : Bool → Fo → Prop
  | _, .nil => True
  | p, .node k _ _ _ _ rest => (p = true → k ≠ 2) ∧ noTw (decide (k = 2)) rest
def lastK : Bool → List NCells → Bool
  | p, [] => p
  | _, c :: r => lastK (decide (c.kind = 2)) r
theorem lastK_snoc : ∀ (p : Bool) (l : List NCells) (c : NCells), lastK p (l ++ [c]) = decide (c.kind = 2)
  | p, [], c => rfl
  | p, d :: l, c => lastK_snoc _ l c
theorem noTw_snoc : ∀ (p : Bool) (l : List NCells) (c : NCells), noTw p (nFo l) → (lastK p l = true → c.kind ≠ 2) → noTw p (nFo (l ++ [c]))
  | p, [], c, _, h => ⟨h, trivial⟩
  | p, d :: l, c, h, h2 => ⟨h.1, noTw_snoc _ l c h.2 h2⟩
theorem noTw_text (t : ByteArray) : ∀ (p : Bool) (l : List NCells) (c : NCells), noTw p (nFo (l ++ [c])) → noTw p (nFo (l ++ [{ c with text := t }]))
  | p, [], c, h => ⟨h.1, trivial⟩
  | p, d :: l, c, h => ⟨h.1, noTw_text t _ l c h.2⟩
theorem okF_of {M : Nat} : ∀ (l : List NCells), (∀ c ∈ l, okC M c ∧ c.text.size ≤ M) → okF M (nFo l)
  | [], _ => trivial
  | c :: l, h => ⟨(h c (by simp)).1.1, (h c (by simp)).1.2.1, (h c (by simp)).2, (h c (by simp)).1.2.2, okF_of l (fun d hd => h d (by simp [hd]))⟩
theorem own_set {w : World} {base : Nat} {e : TypeId} {size n : Nat} {v : Value} {xs : List Value} (h : w.ownsRow base e size v n xs) {g : Nat} (hg : v.ownBlock = some g) (j : Nat) (u : Value) : (w.setCell ⟨g, j, none⟩ u).ownsRow base e size v n (xs.set j u) := by
  obtain ⟨h1, h2⟩ := h
  refine ⟨by rw [List.length_set]; exact h1, ?_⟩
  rcases h2 with ⟨rfl, _⟩ | ⟨g', cap, cur, rfl, hb, hh, hn, hc, hs, ht⟩
  · cases hg
  · have : g' = g := by simpa [Value.ownBlock] using hg
    subst this
    refine Or.inr ⟨g', cap, cur.setIfInBounds j u, rfl, hb, blk_set_self hh j u, hn, hc, by simpa using hs, ?_⟩
    rw [Array.toList_setIfInBounds, List.take_set, ht]
theorem nCells_at : ∀ (l : List NCells) (i : Nat) (h : i < l.length) (j : Nat), j < 5 → (nCells l)[i * 5 + j]? = l[i].list[j]?
  | p :: r, 0, h, j, hj => by
    show (p.list ++ nCells r)[0 * 5 + j]? = _
    rw [Nat.zero_mul, Nat.zero_add, List.getElem?_append_left (by simpa [NCells.list] using hj)]
    rfl
  | p :: r, i + 1, h, j, hj => by
    show (p.list ++ nCells r)[(i + 1) * 5 + j]? = _
    rw [List.getElem?_append_right (by simp [NCells.list]; omega), show (i + 1) * 5 + j - p.list.length = i * 5 + j by simp [NCells.list]; omega, nCells_at r i (by simpa using h) j hj]
    rfl
/-- A row's value written out; its nodes' cells. -/
theorem own_node_at {w : World} {base : Nat} {v : Value} {l : List NCells} (h : w.ownsRow base 44 5 v l.length (nCells l)) :
    ∃ (A : Option Addr) (n cap : Nat), v = .slice A n cap ∧ n = l.length ∧ n ≤ cap ∧ ∀ i (h : i < l.length), ∃ g o, A = some ⟨g, o, none⟩ ∧ o = 0 ∧ v.ownBlock = some g ∧ base ≤ g ∧ g < w.heap.size ∧ ∀ j, j < 5 → w.cell? ⟨g, o + i * 5 + j, none⟩ = l[i].list[j]? ∧ w.frozen? ⟨g, o + i * 5 + j, none⟩ = false := by
  rcases h.2 with ⟨rfl, h0⟩ | ⟨g, cap, cur, rfl, hb0, hb, h1, h2, h3, h4⟩
  · exact ⟨none, 0, 0, rfl, h0.symm, Nat.le_refl _, fun i hi => by omega⟩
  · refine ⟨_, _, cap, rfl, rfl, h1, fun i hi => ⟨g, 0, rfl, rfl, rfl, hb0, (Array.getElem?_eq_some_iff.1 hb).1, fun j hj => ⟨?_, blk_frozen hb _⟩⟩⟩
    have e3 : w.cell? ⟨g, 0 + i * 5 + j, none⟩ = cur[0 + i * 5 + j]? := by simp [World.cell?, hb]
    rw [e3, ← nCells_at l i hi j hj, ← h4, List.getElem?_take, if_pos (by omega), Array.getElem?_toList, Nat.zero_add]
/-- A row that is being made of nodes that were there. -/
structure MrgInv (w wr : World) (P : Nat → Prop) (v : Value) (out : List NCells) : Prop where
  own : wr.ownsRow w.heap.size 44 5 v out.length (nCells out)
  kids : ∀ c ∈ out, c.Fine w P
  below : Below w.heap.size w wr
theorem MrgInv.push {w w7 w8 : World} {P : Nat → Prop} {v v' : Value} {l : List NCells} {c : NCells} {o : Obj} (h : MrgInv w w7 P v l) (hc : c.Fine w P)
    (hown : w8.ownsRow w.heap.size 44 5 v' (l.length + 1) (nCells l ++ c.list)) (hg : (w7.alloc o).grownBy w8 v.ownBlock) : MrgInv w w8 P v' (l ++ [c]) := by
  refine ⟨by rw [nCells_snoc, List.length_append]; exact hown, ?_, ?_⟩
  · intro d hd
    rcases List.mem_append.1 hd with hd | hd
    · exact h.kids d hd
    · rw [List.mem_singleton.1 hd]
      exact hc
  · exact (h.below.alloc h.below.size o).grown hg (by have := h.below.size; simp; omega) (fun j hj => (h.own.lt j hj).1)
theorem MrgInv.text {w wr : World} {P : Nat → Prop} {v : Value} {l : List NCells} {c : NCells} {g : Nat} (h : MrgInv w wr P v (l ++ [c])) (hg : v.ownBlock = some g) (t : ByteArray) :
    MrgInv w (wr.setCell ⟨g, l.length * 5 + 3, none⟩ (.string t)) P v (l ++ [{ c with text := t }]) := by
  have hlt := h.own.lt g hg
  refine ⟨?_, ?_, h.below.setCell (p := ⟨g, _, none⟩) hlt.1 _⟩
  · have e : nCells (l ++ [{ c with text := t }]) = (nCells (l ++ [c])).set (l.length * 5 + 3) (.string t) := by
      rw [nCells_snoc, nCells_snoc, List.set_append_right _ _ (by rw [nCells_length]; omega), nCells_length, Nat.add_sub_cancel_left]
      rfl
    have := own_set h.own hg (l.length * 5 + 3) (.string t)
    rw [e, List.length_append]
    rw [List.length_append] at this
    exact this
  · intro d hd
    rcases List.mem_append.1 hd with hd | hd
    · exact h.kids d (by simp [hd])
    · rw [List.mem_singleton.1 hd]
      exact h.kids c (by simp)
theorem MrgInv.drew {w wr : World} {P : Nat → Prop} {v : Value} {l : List NCells} (h : MrgInv w wr P v l) : MrgInv w wr.drew P v l := ⟨h.own.drew, h.kids, h.below.drew⟩
theorem MrgInv.nil {w : World} (P : Nat → Prop) : MrgInv w w P (.slice none 0 0) [] := ⟨World.ownsRow_nil _ _ _ _, fun c hc => absurd hc (by simp), Below.refl _ _⟩
/-- As a row that is being made since then. -/
theorem MrgInv.row {w0 w wr : World} {P : Nat → Prop} {v : Value} {l : List NCells} (h : MrgInv w wr P v l) (hP : ∀ k, P k → NewB w0 w k) (hB : Below w0.heap.size w0 w) : RowInv w0 wr v l := by
  obtain ⟨h1, h2, h3⟩ := h
  refine ⟨⟨h1.1, ?_⟩, ⟨P, fun c hc => (h2 c hc).move (Stays.below h3 (fun k hk => (hP k hk).2)) (fun _ h => h), fun k hk => ⟨(hP k hk).1, Nat.lt_of_lt_of_le (hP k hk).2 h3.size⟩, fun k hk e => ?_⟩, hB.trans (h3.mono hB.size)⟩
  · rcases h1.2 with h | ⟨g, cap, cur, a, b, c⟩
    · exact .inl h
    · exact .inr ⟨g, cap, cur, a, Nat.le_trans hB.size b, c⟩
  · have := (h1.lt k e).1
    have := (hP k hk).2
    omega
theorem nFo_take_snoc (l : List NCells) (i : Nat) (h : i < l.length) : (nFo (l.take (i + 1))).size = (nFo (l.take i)).size + (1 + l[i].kids.size) := by
  rw [List.take_add_one, List.getElem?_eq_getElem h]
  exact nFo_snoc _ _
end
section
open Go.Lib Go.RowKit
/-- A row merged: nodes that are fine, no texts side by side. -/
def MergePost (M T : Nat) (P : Nat → Prop) (w : World) (l : List NCells) (e : Ending) (w' : World) : Prop :=
  ∃ (v : Value) (out : List NCells), e = .returned v ∧ MrgInv w w' P v out ∧ (∀ c ∈ out, okC M c ∧ c.text.size ≤ T * 40) ∧ noTw false (nFo out) ∧ (nFo out).size ≤ (nFo l).size
set_option maxRecDepth 100000 in
set_option maxHeartbeats 6400000 in
theorem merge3_any (M T : Nat) (hT : T ≤ 10000) (w : World) (base : Nat) (P : Nat → Prop) (v : Value) (l : List NCells) (hrow : w.ownsRow base 44 5 v l.length (nCells l)) (hP : ∀ c ∈ l, c.Fine w P) (hl : l.length ≤ 40) (hok : ∀ c ∈ l, okC M c ∧ c.text.size ≤ T) : Calls Tryz.prog 71 #[v] w (MergePost M T P w l) := by
  obtain ⟨i0, hi, hz0, hz1, hz2⟩ := info_parts info28
  obtain ⟨A, n, cap, rfl, hn, hcap, hat⟩ := own_node_at hrow
  have hn40 : n ≤ 40 := by omega
  replace hn := Lib.hid hn
  replace hat := Lib.hid hat
  replace hok := Lib.hid hok
  replace hP := Lib.hid hP
  clear hrow
  go_enter Tryz.func71, Tryz.ntmps71
  go_wp2
  go_loopw [3, 4] (fun v' x4 wr => ∃ (i : Nat) (out : List NCells), i ≤ n ∧ x4 = .int .i64 i ∧ out.length ≤ i ∧ Hid (MrgInv w wr P v' out) ∧ Hid (∀ c ∈ out, okC M c ∧ c.text.size ≤ T * i) ∧ Hid (noTw false (nFo out)) ∧ Hid ((nFo out).size ≤ (nFo (l.take i)).size)) (fun _ x4 _ => n - (Lib.intOf x4).toNat)
  case atStart => exact ⟨0, [], Nat.zero_le _, rfl, Nat.le_refl _, Lib.hid (MrgInv.nil P), Lib.hid (fun c hc => absurd hc (by simp)), Lib.hid trivial, Lib.hid (Nat.le_refl _)⟩
  case round =>
    obtain ⟨i, out, hin, rfl, hol, hmi, hoc, htw, hsz⟩ := hrel
    by_cases hlt : i < n
    · have hil : i < l.length := by have := hn.out; omega
      obtain ⟨g, o, rfl, ho, hog, hg0, hgw, hc⟩ := hat.out i hil
      replace ho := Lib.hid ho
      obtain ⟨c, hcl⟩ : ∃ c, l[i] = c := ⟨_, rfl⟩
      have hmem : c ∈ l := by rw [← hcl]; exact List.getElem_mem hil
      have htk := nFo_take_snoc l i hil
      rw [hcl] at hc htk
      have hB := hmi.out.below
      have c0 := (hB.cell (p := ⟨g, o + i * 5 + 0, none⟩) hgw).trans (hc 0 (by decide)).1
      have c1 := (hB.cell (p := ⟨g, o + i * 5 + 1, none⟩) hgw).trans (hc 1 (by decide)).1
      have c2 := (hB.cell (p := ⟨g, o + i * 5 + 2, none⟩) hgw).trans (hc 2 (by decide)).1
      have c3 := (hB.cell (p := ⟨g, o + i * 5 + 3, none⟩) hgw).trans (hc 3 (by decide)).1
      have c4 := (hB.cell (p := ⟨g, o + i * 5 + 4, none⟩) hgw).trans (hc 4 (by decide)).1
      obtain ⟨⟨Aa, capa, hva, _⟩, Ak, capk, hvk, _⟩ := hP.out c hmem
      obtain ⟨hokc, htxc⟩ := hok.out c hmem
      obtain ⟨kd, nm, al, tx, kids, va, vk⟩ := c
      simp only [NCells.list, List.getElem?_cons_zero, List.getElem?_cons_succ, Nat.add_zero] at c0 c1 c2 c3 c4 hva hvk htxc
      subst hva hvk
      obtain ⟨na, hna⟩ : ∃ na, al.length = na := ⟨_, rfl⟩
      obtain ⟨nk, hnk⟩ : ∃ nk, kids.len = nk := ⟨_, rfl⟩
      rw [hna] at c2
      rw [hnk] at c4
      obtain ⟨Ao, no, capo, rfl, hno, hcapo, hato⟩ := own_node_at hmi.out.own
      replace hno := Lib.hid hno
      replace hato := Lib.hid hato
      replace hna := Lib.hid hna
      replace hnk := Lib.hid hnk
      replace hc := Lib.hid hc
      replace hokc := Lib.hid hokc
      have hi0 : (0 : Int) ≤ (i : Int) := by omega
      have hi1 : (i : Int) < (n : Int) := by omega
      have hol2 : no ≤ 40 := by have := hno.out; omega
      obtain ⟨lk, hlk⟩ : ∃ lk, lastK false out = lk := ⟨_, rfl⟩
      replace hB := Lib.hid hB
      have hown : Hid (wr.ownsRow w.heap.size 44 5 (.slice Ao no capo) no (nCells out)) := Lib.hid (by have := hmi.out.own; rwa [← hno.out] at this)
      have hpush : Hid (∀ (v' : Value) (w8 : World) (x : Obj), (kd = 2 → lk = false) → w8.ownsRow w.heap.size 44 5 v' (no + 1) (nCells out ++ [.int .i64 kd, .string nm, .slice Aa na capa, .string tx, .slice Ak nk capk]) → (wr.alloc x).grownBy w8 (Value.slice Ao no capo).ownBlock →
          ∃ out2 : List NCells, out2.length ≤ i + 1 ∧ Hid (MrgInv w w8 P v' out2) ∧ Hid (∀ c ∈ out2, okC M c ∧ c.text.size ≤ T * (i + 1)) ∧ Hid (noTw false (nFo out2)) ∧ Hid ((nFo out2).size ≤ (nFo (l.take (i + 1))).size)) := Lib.hid (by
        intro v' w8 x hkl hown' hg8
        refine ⟨out ++ [⟨kd, nm, al, tx, kids, .slice Aa na capa, .slice Ak nk capk⟩], by simp; omega, Lib.hid ?_, Lib.hid ?_, Lib.hid ?_, Lib.hid ?_⟩
        · exact hmi.out.push (c := ⟨kd, nm, al, tx, kids, .slice Aa na capa, .slice Ak nk capk⟩) (by have := hP.out _ hmem; rw [hna.out, hnk.out] at this; exact this) (by rw [← hno.out]; exact hown') hg8
        · intro c hc
          rcases List.mem_append.1 hc with hc | hc
          · exact ⟨(hoc.out c hc).1, by have := (hoc.out c hc).2; have hms : T * (i + 1) = T * i + T := Nat.mul_succ T i; omega⟩
          · rw [List.mem_singleton.1 hc]
            exact ⟨hokc.out, by show tx.size ≤ _; have hms : T * (i + 1) = T * i + T := Nat.mul_succ T i; omega⟩
        · exact noTw_snoc _ _ _ htw.out (fun h e => by rw [hlk] at h; have := hkl e; rw [this] at h; cases h)
        · rw [nFo_snoc, htk]
          have := hsz.out
          show (nFo out).size + (1 + kids.size) ≤ (nFo (l.take i)).size + (1 + kids.size)
          omega)
      replace hlk := Lib.hid hlk
      by_cases hk2 : kd = 2
      · subst hk2
        by_cases hte : tx.toList.isEmpty = true
        · go_wp2
          refine ⟨⟨i + 1, out, by omega, by simp, by omega, hmi, Lib.hid (fun c hc => ⟨(hoc.out c hc).1, by have := (hoc.out c hc).2; have hms : T * (i + 1) = T * i + T := Nat.mul_succ T i; omega⟩), htw, Lib.hid (by have := hsz.out; omega)⟩, by simp [Lib.intOf]; omega⟩
        · have hte2 : tx.toList.isEmpty = false := by simpa using hte
          clear hte
          rcases List.eq_nil_or_concat out with ho0 | ⟨out0, d, ho0⟩
          · have hno0 : no = 0 := by rw [hno.out, ho0]; rfl
            obtain ⟨K, hK⟩ : ∃ K : Int, (no : Int) - 1 = K := ⟨_, rfl⟩
            have hKn : ¬ (0 ≤ K) := by omega
            have hlk0 : Hid (lk = false) := Lib.hid (by rw [← hlk.out, ho0]; rfl)
            clear hno0 ho0
            go_wp2_with (at_builtin; refine wpList_append_own_at _ rfl _ _ 40 rfl w.heap.size 44 i0 _ 5 88 Tryz.underlying40 hi hz0 hz1 hz2 rfl (by decide) _ _ _ rfl (hown.out.alloc _) ⟨_, 0, none⟩ 1 1 [.int .i64 2, .string nm, .slice Aa na capa, .string tx, .slice Ak nk capk] rfl rfl (cells_new _ _ _) (by intro u hu; simp at hu; rcases hu with rfl | rfl | rfl | rfl | rfl <;> rfl) (by unfold maxLen; omega) (by omega) (by have := hB.out.size; simp; omega) ?_; intro v' w8 hown' hg8 hnil8 hat8; go_frame)
            obtain ⟨out2, h1, h2, h3, h4, h5⟩ := hpush.out v' w8 _ (fun _ => hlk0.out) hown' hg8
            exact ⟨⟨i + 1, out2, by omega, by simp, h1, h2, h3, h4, h5⟩, by simp [Lib.intOf]; omega⟩
          · obtain ⟨m, hm⟩ : ∃ m, out0.length = m := ⟨_, rfl⟩
            have hnm : no = m + 1 := by rw [hno.out, ho0, List.concat_eq_append, List.length_append, hm]; rfl
            have hkm : (no : Int) - 1 = (m : Int) := by omega
            have hm0 : (0 : Int) ≤ (m : Int) := by omega
            have hm1 : (m : Int) < (no : Int) := by omega
            have hml : m < out.length := by rw [← hno.out]; omega
            have hdm : out[m] = d := (List.getElem_eq_iff hml).2 (by rw [ho0, List.concat_eq_append, List.getElem?_append_right (by omega), hm, Nat.sub_self]; rfl)
            obtain ⟨g2, o2, rfl, ho2, hog2, hg20, hg2w, hc2⟩ := hato.out m hml
            rw [hdm] at hc2
            have b0 := (hc2 0 (by decide)).1
            have b3 := (hc2 3 (by decide)).1
            have bf := (hc2 3 (by decide)).2
            obtain ⟨dk, hdk⟩ : ∃ dk, d.kind = dk := ⟨_, rfl⟩
            obtain ⟨dt, hdt⟩ : ∃ dt, d.text = dt := ⟨_, rfl⟩
            simp only [NCells.list, List.getElem?_cons_zero, List.getElem?_cons_succ, Nat.add_zero, hdk, hdt] at b0 b3
            have hlk1 : lk = decide (dk = 2) := by rw [← hlk.out, ho0, List.concat_eq_append, lastK_snoc, hdk]
            replace hlk1 := Lib.hid hlk1
            replace hc2 := Lib.hid hc2
            replace ho2 := Lib.hid ho2
            replace ho0 := Lib.hid ho0
            replace hdk := Lib.hid hdk
            replace hdt := Lib.hid hdt
            replace hm := Lib.hid hm
            replace hnm := Lib.hid hnm
            by_cases hd2 : dk = 2
            · subst hd2
              have hdz : dt.size ≤ 400000 := by have := (hoc.out d (by rw [ho0.out]; simp)).2; rw [hdt.out] at this; have := Nat.mul_le_mul hT (show i ≤ 40 by omega); omega
              have hsum : dt.size + tx.size ≤ maxLen := by unfold maxLen; omega
              go_upto_region 8 with fail
              go_region
              go_wp2
              have e1 : out = out0 ++ [d] := by rw [ho0.out, List.concat_eq_append]
              have hmi2 := hmi.out
              rw [e1] at hmi2
              have hset := hmi2.text (g := g2) rfl (dt ++ tx)
              rw [hm.out, show m * 5 + 3 = o2 + m * 5 + 3 by rw [ho2.out]; omega] at hset
              refine ⟨⟨i + 1, out0 ++ [{ d with text := dt ++ tx }], by omega, by simp, ?_, Lib.hid hset.drew, Lib.hid ?_, Lib.hid ?_, Lib.hid ?_⟩, by simp [Lib.intOf]; omega⟩
              · rw [e1] at hol
                simp at hol ⊢
                omega
              · intro c hc
                rcases List.mem_append.1 hc with hc | hc
                · have := hoc.out c (by rw [e1]; simp [hc])
                  exact ⟨this.1, by have hms : T * (i + 1) = T * i + T := Nat.mul_succ T i; omega⟩
                · rw [List.mem_singleton.1 hc]
                  have := hoc.out d (by rw [e1]; simp)
                  rw [hdt.out] at this
                  exact ⟨this.1, by show (dt ++ tx).size ≤ _; rw [ByteArray.size_append]; have hms : T * (i + 1) = T * i + T := Nat.mul_succ T i; omega⟩
              · have := htw.out
                rw [e1] at this
                exact noTw_text _ _ _ _ this
              · have := hsz.out
                rw [e1, nFo_snoc] at this
                rw [nFo_snoc, htk]
                show _ + (1 + d.kids.size) ≤ _
                omega
            · go_wp2_with (at_builtin; refine wpList_append_own_at _ rfl _ _ 40 rfl w.heap.size 44 i0 _ 5 88 Tryz.underlying40 hi hz0 hz1 hz2 rfl (by decide) _ _ _ rfl (hown.out.alloc _) ⟨_, 0, none⟩ 1 1 [.int .i64 2, .string nm, .slice Aa na capa, .string tx, .slice Ak nk capk] rfl rfl (cells_new _ _ _) (by intro u hu; simp at hu; rcases hu with rfl | rfl | rfl | rfl | rfl <;> rfl) (by unfold maxLen; omega) (by omega) (by have := hB.out.size; simp; omega) ?_; intro v' w8 hown' hg8 hnil8 hat8; go_frame)
              obtain ⟨out2, h1, h2, h3, h4, h5⟩ := hpush.out v' w8 _ (fun _ => by rw [hlk1.out]; exact decide_eq_false hd2) hown' hg8
              exact ⟨⟨i + 1, out2, by omega, by simp, h1, h2, h3, h4, h5⟩, by simp [Lib.intOf]; omega⟩
      · go_wp2_with (at_builtin; refine wpList_append_own_at _ rfl _ _ 40 rfl w.heap.size 44 i0 _ 5 88 Tryz.underlying40 hi hz0 hz1 hz2 rfl (by decide) _ _ _ rfl (hown.out.alloc _) ⟨_, 0, none⟩ 1 1 [.int .i64 kd, .string nm, .slice Aa na capa, .string tx, .slice Ak nk capk] rfl rfl (cells_new _ _ _) (by intro u hu; simp at hu; rcases hu with rfl | rfl | rfl | rfl | rfl <;> rfl) (by unfold maxLen; omega) (by omega) (by have := hB.out.size; simp; omega) ?_; intro v' w8 hown' hg8 hnil8 hat8; go_frame)
        obtain ⟨out2, h1, h2, h3, h4, h5⟩ := hpush.out v' w8 _ (fun h => absurd h hk2) hown' hg8
        exact ⟨⟨i + 1, out2, by omega, by simp, h1, h2, h3, h4, h5⟩, by simp [Lib.intOf]; omega⟩
    · go_wp2
      go_ret
      have hin3 : i = n := by omega
      refine ⟨_, out, rfl, hmi.out, fun c hc => ⟨(hoc.out c hc).1, ?_⟩, htw.out, ?_⟩
      · exact Nat.le_trans (hoc.out c hc).2 (Nat.mul_le_mul_left _ (by omega))
      · have := hsz.out
        rwa [hin3, hn.out, List.take_length] at this
/-- The same, of a row that is being made. -/
theorem merge3_row (M T : Nat) (hT : T ≤ 10000) (w0 w : World) (v : Value) (l : List NCells) (hinv : RowInv w0 w v l) (hl : l.length ≤ 40) (hok : ∀ c ∈ l, okC M c ∧ c.text.size ≤ T) : Calls Tryz.prog 71 #[v] w fun e w' =>
    ∃ (v' : Value) (out : List NCells), e = .returned v' ∧ RowInv w0 w' v' out ∧ (∀ c ∈ out, okC M c ∧ c.text.size ≤ T * 40) ∧ noTw false (nFo out) ∧ (nFo out).size ≤ (nFo l).size := by
  obtain ⟨P, hP, hPn, _⟩ := hinv.kids
  refine (merge3_any M T hT w w0.heap.size P v l hinv.own hP hl hok).mono ?_
  rintro e w' ⟨v', out, rfl, h1, h2, h3, h4⟩
  exact ⟨v', out, rfl, h1.row hPn hinv.below, h2, h3, h4⟩
end
end Go.Proofs.YtghlodpbbghcoaaGreatDoor.Nd
