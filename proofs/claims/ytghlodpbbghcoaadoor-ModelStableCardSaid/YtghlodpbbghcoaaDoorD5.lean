/- All nodes, each ahead of its kids: the iterator, walked. -/
import Derived.Test.YtghlodpbbghcoaaDoorSA
import Derived.Test.YtghlodpbbghcoaaDoorM7
namespace Go.Proofs.YtghlodpbbghcoaaDoor
open Go.Lib Go.RowKit Go.Shelf

/-- What is told of a node: does it stand behind a text, its kind, name, attributes, text, how many kids. -/
structure Dt where
  behind : Bool
  kind : Int
  name : ByteArray
  attrs : List (ByteArray × ByteArray)
  text : ByteArray
  kids : Nat
def nodesOf : Bool → Fo → List Dt
  | _, .nil => []
  | p, .node k nm al tx kids rest => ⟨p, k, nm, al, tx, kids.len⟩ :: (nodesOf false kids ++ nodesOf (decide (k = 2)) rest)
def Fo.size : Fo → Nat
  | .nil => 0
  | .node _ _ _ _ kids rest => 1 + kids.size + rest.size
def Fo.height : Fo → Nat
  | .nil => 0
  | .node _ _ _ _ kids rest => max (kids.height + 1) rest.height
theorem nodesOf_length : ∀ (p : Bool) (f : Fo), (nodesOf p f).length = f.size
  | _, .nil => rfl
  | p, .node k nm al tx kids rest => by
    rw [nodesOf, Fo.size, List.length_cons, List.length_append, nodesOf_length, nodesOf_length]
    omega
theorem Fo.len_size : ∀ f : Fo, f.len ≤ f.size
  | .nil => Nat.le_refl _
  | .node _ _ _ _ kids rest => by
    have := Fo.len_size rest
    rw [Fo.len, Fo.size]
    omega
/-- Is all of a size that can be handled? -/
def Fo.Ok : Fo → Prop
  | .nil => True
  | .node _ nm al tx kids rest => nm.size ≤ maxLen ∧ AttrsOk al ∧ al.length ≤ 1000000 ∧ tx.size ≤ maxLen ∧ kids.Ok ∧ rest.Ok
/-- The nodes from the i-th on; the flag ahead of it. -/
def Fo.drop : Bool → Fo → Nat → Bool × Fo
  | p, f, 0 => (p, f)
  | p, .nil, _ + 1 => (p, .nil)
  | _, .node k _ _ _ _ rest, i + 1 => Fo.drop (decide (k = 2)) rest i
theorem Fo.drop_zero (p : Bool) (f : Fo) : Fo.drop p f 0 = (p, f) := by cases f <;> rfl
theorem Fo.drop_succ (p : Bool) (k : Int) (nm : ByteArray) (al : List (ByteArray × ByteArray)) (tx : ByteArray) (kids rest : Fo) (i : Nat) : Fo.drop p (.node k nm al tx kids rest) (i + 1) = Fo.drop (decide (k = 2)) rest i := rfl
theorem Fo.drop_node {p : Bool} {k : Int} {nm : ByteArray} {al : List (ByteArray × ByteArray)} {tx : ByteArray} {kids rest : Fo} : ∀ {f : Fo} {i : Nat} {q : Bool}, Fo.drop q f i = (p, .node k nm al tx kids rest) → Fo.drop q f (i + 1) = (decide (k = 2), rest)
  | .nil, 0, q, h => by cases h
  | .node .., 0, q, h => by cases h; rw [Fo.drop_succ, Fo.drop_zero]
  | .nil, i + 1, q, h => by cases h
  | .node k' _ _ _ _ rest', i + 1, q, h => Fo.drop_node (f := rest') (i := i) h
theorem Fo.drop_len : ∀ (f : Fo) (i : Nat) (q : Bool), (Fo.drop q f i).2.len = f.len - i
  | f, 0, q => by simp [Fo.drop]
  | .nil, i + 1, q => by simp [Fo.drop, Fo.len]
  | .node k _ _ _ _ rest, i + 1, q => by rw [Fo.drop, Fo.drop_len rest i, Fo.len]; omega
theorem RowAt.drop {w : World} {B b : Nat} : ∀ {f : Fo} {o : Nat} (i : Nat) (q : Bool), RowAt w B b o f → RowAt w B b (o + i * 5) (Fo.drop q f i).2
  | f, o, 0, q, h => by simpa [Fo.drop] using h
  | .nil, o, i + 1, q, h => trivial
  | .node k _ _ _ _ rest, o, i + 1, q, h => by
    rw [Fo.drop, show o + (i + 1) * 5 = o + 5 + i * 5 by omega]
    exact RowAt.drop i _ h.2.2.2.2.2.2
theorem Fo.Ok.drop : ∀ {f : Fo} (i : Nat) (q : Bool), f.Ok → (Fo.drop q f i).2.Ok
  | f, 0, q, h => by rw [Fo.drop_zero]; exact h
  | .nil, i + 1, q, h => trivial
  | .node k _ _ _ _ rest, i + 1, q, h => Fo.Ok.drop (f := rest) i _ h.2.2.2.2.2

/-- A node that has come: its row, its place. -/
structure Item (w0 : World) (B : Nat) where
  b : Nat
  o : Nat
  cap : Nat
  f : Fo
  i : Nat
  hi : i < f.len
  hcap : f.len ≤ cap
  hbig : f.len ≤ 1000000
  row : RowAt w0 B b o f
  ok : f.Ok
def dtOf (p : Bool) : Fo → Dt
  | .nil => ⟨p, 0, ByteArray.empty, [], ByteArray.empty, 0⟩
  | .node k nm al tx kids _ => ⟨p, k, nm, al, tx, kids.len⟩
def Item.dt {w0 : World} {B : Nat} (x : Item w0 B) : Dt := dtOf (Fo.drop false x.f x.i).1 (Fo.drop false x.f x.i).2
def Item.encs {w0 : World} {B : Nat} (x : Item w0 B) : Array Value := #[.slice (some ⟨x.b, x.o, none⟩) x.f.len x.cap, .int .i64 x.i]

theorem RoundIn.anyDepth {F : Fence} (hd : F.depth = none) {m m' : Nat} {P : Program} {l : Nat} {f : FuncId} {tmps : Array Value} {assign body : Code} {w : World} {R : Ending → World → Prop}
    (h : RoundIn F m P l f tmps assign body w R) : RoundIn F m' P l f tmps assign body w R := ⟨h.1, fun c cs _ => h.2 c cs (fun d h => by rw [hd] at h; cases h)⟩
theorem YieldAt.anyDepth {F : Fence} (hd : F.depth = none) {m : Nat} (m' : Nat) {P : Program} {l : Nat} {args : Array Value} {W : World} {R : Ending → World → Prop} (h : YieldAt F m P l args W R) : YieldAt F m' P l args W R := by
  obtain ⟨fn, tmps, assign, body, hy, hR⟩ := h
  exact ⟨fn, tmps, assign, body, hy, RoundIn.anyDepth hd hR⟩

section
variable {w0 : World} {B l N : Nat} {J Jx : List (Item w0 B) → World → Prop}
/-- WHAT walk DOES AT NODES. -/
def WalkOk (w0 : World) (B l N : Nat) (J Jx : List (Item w0 B) → World → Prop) (f : Fo) : Prop :=
  ∀ (n deep : Nat) (A : Option Addr) (cap : Nat) (pre : List (Item w0 B)) (W : World), f.len ≤ cap → (0 < f.len → ∃ b o, A = some ⟨b, o, none⟩ ∧ RowAt w0 B b o f) → deep + f.height < 1000 → J pre W → Below B w0 W → pre.length + f.size ≤ N →
    CallsIn Fence.wide n Tryd.prog 45 #[.slice A f.len cap, .int .i64 deep, .func (.yield l) #[] #[]] W fun e W' =>
      (e = .returned (.bool true) ∧ ∃ xs : List (Item w0 B), xs.map Item.dt = nodesOf false f ∧ J (pre ++ xs) W' ∧ Below B w0 W') ∨ (e = .returned (.bool false) ∧ ∃ xs : List (Item w0 B), xs.map Item.dt <+: nodesOf false f ∧ Jx (pre ++ xs) W')
def SpineOk (w0 : World) (B l N : Nat) (J Jx : List (Item w0 B) → World → Prop) : Fo → Prop
  | .nil => True
  | .node _ _ _ _ kids rest => WalkOk w0 B l N J Jx kids ∧ SpineOk w0 B l N J Jx rest
theorem SpineOk.drop : ∀ {f : Fo} (i : Nat) (q : Bool), SpineOk w0 B l N J Jx f → SpineOk w0 B l N J Jx (Fo.drop q f i).2
  | f, 0, q, h => by rw [Fo.drop_zero]; exact h
  | .nil, i + 1, q, h => trivial
  | .node k _ _ _ _ rest, i + 1, q, h => SpineOk.drop (f := rest) i _ h.2
theorem Fo.drop_height : ∀ (f : Fo) (i : Nat) (q : Bool), (Fo.drop q f i).2.height ≤ f.height
  | f, 0, q => by rw [Fo.drop_zero]; exact Nat.le_refl _
  | .nil, i + 1, q => Nat.le_refl _
  | .node k _ _ _ _ rest, i + 1, q => Nat.le_trans (Fo.drop_height rest i _) (by rw [Fo.height]; omega)

set_option maxRecDepth 8192 in
set_option maxHeartbeats 6400000 in
theorem walk_of_spine (hY : ∀ m pre x W, J pre W → pre.length < N → YieldAt Fence.wide m Tryd.prog l (Item.encs x) W fun e W' =>
      (e = .returned (.bool true) ∧ J (pre ++ [x]) W' ∧ Below B W W') ∨ (e = .returned (.bool false) ∧ Jx (pre ++ [x]) W')) (f : Fo) (hf : f.Ok) (hbig : f.len ≤ 1000000) (hS : SpineOk w0 B l N J Jx f) : WalkOk w0 B l N J Jx f := by
  intro n deep A cap pre W hcap hrow hdeep hJ hB hN
  obtain ⟨L, hL⟩ : ∃ L, f.len = L := ⟨_, rfl⟩
  have hL0 := hL
  rw [hL] at hcap hrow hbig ⊢
  replace hL := Lib.hid hL
  have hd1 : deep < 1000 := by omega
  have hdne : ((deep : Int) == 1000) = false := beq_eq_false_iff_ne.2 (by omega)
  refine callsIn_of_wp Tryd.func45 rfl trivial ?_ rfl
  simp only [Tryd.ntmps45, List.size_toArray, List.length_cons, List.length_nil, Nat.reduceAdd, Nat.reduceSub, Array.replicate_succ, Array.replicate_zero, List.push_toArray, List.append_toArray, List.nil_append, List.cons_append]
  gi_wp2
  gi_loopw [15] (fun x15 wr => ∃ (i : Nat) (p : Bool) (g : Fo) (xs : List (Item w0 B)), i ≤ L ∧ x15 = .int .i64 i ∧ Hid (Fo.drop false f i = (p, g)) ∧ Hid (∃ t, nodesOf false f = xs.map Item.dt ++ t ∧ t = nodesOf p g) ∧ Hid (J (pre ++ xs) wr) ∧ Hid (Below B w0 wr)) (fun x15 _ => L - (Lib.intOf x15).toNat)
  case atStart => exact ⟨0, false, f, [], Nat.zero_le _, rfl, Lib.hid (Fo.drop_zero _ _), Lib.hid ⟨_, rfl, rfl⟩, Lib.hid (by simpa using hJ), Lib.hid hB⟩
  case round =>
    clear hJ hB
    obtain ⟨i, p, g, xs, hi, rfl, hg, hxs, hJ, hB⟩ := hrel
    by_cases hlt : i < L
    · obtain ⟨b, o, rfl, hr⟩ := hrow (by omega)
      have hfuel := Fo.drop_len f i false
      rw [hg.out, hL.out] at hfuel
      cases g with
      | nil => exfalso; simp [Fo.len] at hfuel; omega
      | node k nm al tx kids rest =>
        have hri := hr.drop i false
        have hSi := hS.drop i false
        have hhi := Fo.drop_height f i false
        rw [hg.out] at hri hSi hhi
        obtain ⟨hbB, c0, c1, c2, c3, ⟨A4, cap4, c4, hcap4, hk4⟩, _⟩ := hri
        have hheight : kids.height + 1 ≤ f.height := Nat.le_trans (by rw [Fo.height]; omega) hhi
        obtain ⟨x, hx⟩ : ∃ x : Item w0 B, x = ⟨b, o, cap, f, i, by rw [hL.out]; exact hlt, by rw [hL.out]; exact hcap, by rw [hL.out]; exact hbig, hr, hf⟩ := ⟨_, rfl⟩
        have hdt : x.dt = ⟨p, k, nm, al, tx, kids.len⟩ := by rw [hx]; unfold Item.dt; rw [hg.out]; rfl
        have hxe : x.encs = #[.slice (some ⟨b, o, none⟩) L cap, .int .i64 i] := by
          have h : x.encs = #[.slice (some ⟨b, o, none⟩) f.len cap, .int .i64 i] := by rw [hx]; rfl
          rw [hL.out] at h
          exact h
        have hcount : xs.length + 1 + kids.size ≤ f.size := by
          obtain ⟨t, h1, rfl⟩ := hxs.out
          have := congrArg List.length h1
          rw [nodesOf_length, List.length_append, List.length_map, nodesOf_length, Fo.size] at this
          omega
        obtain ⟨fn, tmps, assign, body, hy, hR⟩ := hY (n - 1) (pre ++ xs) x wr hJ.out (by rw [List.length_append]; omega)
        rw [hxe] at hy
        have hR2 := RoundIn.mono hR (R' := fun e W' => (e = .returned (.bool true) ∧ J (pre ++ xs ++ [x]) W' ∧ Below B w0 W' ∧ W'.cell? ⟨b, o + i * 5 + 4, none⟩ = some (.slice A4 kids.len cap4) ∧
            CallsIn Fence.wide (n - 1) Tryd.prog 45 #[.slice A4 kids.len cap4, .int .i64 ((deep : Int) + 1), .func (.yield l) #[] #[]] W' fun e W' =>
      (e = .returned (.bool true) ∧ ∃ ys : List (Item w0 B), ys.map Item.dt = nodesOf false kids ∧ J (pre ++ xs ++ [x] ++ ys) W' ∧ Below B w0 W') ∨ (e = .returned (.bool false) ∧ ∃ ys : List (Item w0 B), ys.map Item.dt <+: nodesOf false kids ∧ Jx (pre ++ xs ++ [x] ++ ys) W'))
            ∨ (e = .returned (.bool false) ∧ Jx (pre ++ xs ++ [x]) W')) (fun e W' h => h.elim (fun ⟨he, hj, hb⟩ => .inl ⟨he, hj, hB.out.trans hb, (Below.cell (hB.out.trans hb) (p := ⟨b, o + i * 5 + 4, none⟩) hbB).trans c4,
              by
                have h := hSi.1 (n - 1) (deep + 1) A4 cap4 (pre ++ xs ++ [x]) W' hcap4 hk4 (by omega) hj (hB.out.trans hb) (by rw [List.length_append, List.length_append]; simp; omega)
                rw [show ((deep + 1 : Nat) : Int) = (deep : Int) + 1 by simp] at h
                exact h⟩) .inr)
        clear hx hR c0 c1 c2 c3 hxe hSi hrow hk4
        replace hdt := Lib.hid hdt
        replace hcount := Lib.hid hcount
        have hi0 : (0 : Int) ≤ (i : Int) := by omega
        have hi1 : (i : Int) < (L : Int) := by omega
        gi_wp2_with (first
          | ((try refine ⟨fun h => (by cases h), ?_⟩); refine hR2.mono ?_; clear hR2; rintro e W3 (⟨rfl, hJ3, hB3, c43, hkids⟩ | ⟨rfl, hx3⟩))
          | (refine ⟨trivial, fun h => (by cases h), ?_⟩; gi_at_call 45; refine hkids.mono ?_; clear hkids; rintro e W4 (⟨rfl, ys, hys, hJ4, hB4⟩ | ⟨rfl, ys, hys, hJx4⟩)))
        · have heq : nodesOf false f = (xs ++ [x] ++ ys).map Item.dt ++ nodesOf (decide (k = 2)) rest := by
            obtain ⟨t, h1, rfl⟩ := hxs.out
            rw [h1, nodesOf, List.map_append, List.map_append, hys, List.map_cons, List.map_nil, hdt.out]
            simp
          exact ⟨⟨i + 1, decide (k = 2), rest, xs ++ [x] ++ ys, by omega, by simp, Lib.hid (Fo.drop_node hg.out), Lib.hid ⟨_, heq, rfl⟩, Lib.hid (by simpa [List.append_assoc] using hJ4), Lib.hid hB4⟩, by simp [Lib.intOf]; omega⟩
        · go_ret
          refine .inr ⟨rfl, xs ++ [x] ++ ys, ?_, by simpa [List.append_assoc] using hJx4⟩
          obtain ⟨t, h1, rfl⟩ := hxs.out
          obtain ⟨u, hu⟩ := hys
          refine ⟨u ++ nodesOf (decide (k = 2)) rest, ?_⟩
          rw [h1, nodesOf, ← hu, List.map_append, List.map_append, List.map_cons, List.map_nil, hdt.out]
          simp
        · refine ⟨trivial, ?_⟩
          gi_wp2
          go_ret
          refine .inr ⟨rfl, xs ++ [x], ?_, by simpa [List.append_assoc] using hx3⟩
          obtain ⟨t, h1, rfl⟩ := hxs.out
          refine ⟨nodesOf false kids ++ nodesOf (decide (k = 2)) rest, ?_⟩
          rw [h1, nodesOf, List.map_append, List.map_cons, List.map_nil, hdt.out]
          simp
    · have hfuel := Fo.drop_len f i false
      rw [hg.out, hL.out] at hfuel
      cases g with
      | node k nm al tx kids rest => exfalso; simp [Fo.len] at hfuel; omega
      | nil =>
        gi_wp2
        go_ret
        refine .inl ⟨rfl, xs, ?_, hJ.out, hB.out⟩
        obtain ⟨t, h1, rfl⟩ := hxs.out
        rw [h1, nodesOf, List.append_nil]

theorem spine_of (hY : ∀ m pre x W, J pre W → pre.length < N → YieldAt Fence.wide m Tryd.prog l (Item.encs x) W fun e W' =>
      (e = .returned (.bool true) ∧ J (pre ++ [x]) W' ∧ Below B W W') ∨ (e = .returned (.bool false) ∧ Jx (pre ++ [x]) W')) : ∀ f : Fo, f.Ok → f.size ≤ 1000000 → SpineOk w0 B l N J Jx f
  | .nil, _, _ => trivial
  | .node k nm al tx kids rest, hf, hs => by
    rw [Fo.size] at hs
    exact ⟨walk_of_spine hY kids hf.2.2.2.2.1 (Nat.le_trans (Fo.len_size kids) (by omega)) (spine_of hY kids hf.2.2.2.2.1 (by omega)), spine_of hY rest hf.2.2.2.2.2 (by omega)⟩
/-- walk, AT ALL NODES. -/
theorem walk_any (hY : ∀ m pre x W, J pre W → pre.length < N → YieldAt Fence.wide m Tryd.prog l (Item.encs x) W fun e W' =>
      (e = .returned (.bool true) ∧ J (pre ++ [x]) W' ∧ Below B W W') ∨ (e = .returned (.bool false) ∧ Jx (pre ++ [x]) W')) (f : Fo) (hf : f.Ok) (hs : f.size ≤ 1000000) : WalkOk w0 B l N J Jx f :=
  walk_of_spine hY f hf (Nat.le_trans (Fo.len_size f) hs) (spine_of hY f hf hs)
end

set_option maxHeartbeats 800000 in
/-- THE ITERATOR'S CONTRACT. -/
theorem each_stops (w : World) (Bx B : Nat) (A : Option Addr) (cap : Nat) (f : Fo) (hf : f.Ok) (hs : f.size ≤ 1000000) (hh : f.height < 1000) (hcap : f.len ≤ cap) (hBx : Bx < w.heap.size) (hBw : B ≤ w.heap.size)
    (hc : w.cell? ⟨Bx, 0, none⟩ = some (.slice A f.len cap)) (hrow : 0 < f.len → ∃ b o, A = some ⟨b, o, none⟩ ∧ RowAt w B b o f) :
    SeqStopsK Fence.wide 3 Tryd.prog 44 #[.pointer (some ⟨Bx, 0, none⟩)] (Item.encs (w0 := w) (B := B)) (Below B) (fun xs => xs.map Item.dt = nodesOf false f) (fun xs => xs.map Item.dt <+: nodesOf false f) f.size w := fun l J Jx W hW hJ hJx hY h0 => by
  have hc' : W.cell? ⟨Bx, 0, none⟩ = some (.slice A f.len cap) := (hW.cell (p := ⟨Bx, 0, none⟩) hBx).trans hc
  have hwalk := walk_any (w0 := w) (B := B) (l := l) (N := f.size) (J := J) (Jx := Jx) (fun m pre x W1 hj hl => YieldAt.anyDepth rfl m (hY pre x W1 hj hl)) f hf hs 2 0 A cap [] W hcap hrow (by omega) h0 (hW.mono hBw) (by simp)
  simp only [List.nil_append] at hwalk
  refine callsIn_of_wp Tryd.func44 rfl trivial ?_ rfl
  simp only [Tryd.ntmps44, List.size_toArray, List.length_cons, List.length_nil, Nat.reduceAdd, Nat.reduceSub, Array.replicate_succ, Array.replicate_zero, List.push_toArray, List.append_toArray, List.nil_append, List.cons_append]
  gi_wp2_with (refine ⟨trivial, ?_⟩; (try refine ⟨fun h => (by cases h), ?_⟩); gi_at_call 45; refine hwalk.mono ?_; clear hwalk; rintro e W1 (⟨rfl, xs, hxs, hJ1, _⟩ | ⟨rfl, xs, hxs, hx⟩))
  · go_end0
    exact ⟨⟨_, rfl⟩, .inl ⟨_, hxs, hJ1⟩⟩
  · go_end0
    exact ⟨⟨_, rfl⟩, .inr ⟨_, hxs, hx⟩⟩
end Go.Proofs.YtghlodpbbghcoaaDoor
