/- Walks over expressions, fourteenth part: words for matching. -/
import Derived.Test.YtaefhfldgemcnaaR13
import Derived.Test.YtaefhfldgemcnaaW15
namespace Go.Proofs.Ytaefhfldgemcnaa
open Go.RowKit

theorem info22 : (Try.prog.info? 22).map (fun i => (i.zero, i.size, i.bytes)) = some (some (.slice none 0 0), 1, 24) := by kernel_rfl
theorem own_base {w : World} {b b' : Nat} {e : TypeId} {size n : Nat} {v : Value} {xs : List Value} (h : w.ownsRow b e size v n xs) (hb : b' ≤ b) : w.ownsRow b' e size v n xs := by
  obtain ⟨h1, h2⟩ := h
  refine ⟨h1, ?_⟩
  rcases h2 with h2 | ⟨g, cap, cur, hv, hg, r⟩
  · exact .inl h2
  · exact .inr ⟨g, cap, cur, hv, by omega, r⟩
theorem own_grown_ne {w w' : World} {b1 : Nat} {e1 : TypeId} {s1 n1 : Nat} {v1 : Value} {x1 : List Value} {r : Option Nat} (h1 : w.ownsRow b1 e1 s1 v1 n1 x1) (hg : w.grownBy w' r) (hne : ∀ g, v1.ownBlock = some g → r ≠ some g) :
    w'.ownsRow b1 e1 s1 v1 n1 x1 := by
  obtain ⟨h3, h4⟩ := h1
  refine ⟨h3, ?_⟩
  rcases h4 with h4 | ⟨g, cap, cur, hv, hgb, hh, r2⟩
  · exact .inl h4
  · exact .inr ⟨g, cap, cur, hv, hgb, blk_grown hh hg (hne g (by rw [hv]; rfl)), r2⟩
theorem own_touch {w w' : World} {b1 : Nat} {e1 : TypeId} {s1 n1 S : Nat} {v1 : Value} {x1 : List Value} {r : Option Nat} (h1 : w.ownsRow b1 e1 s1 v1 n1 x1) (hg : Touch S r w w') (hne : ∀ g, v1.ownBlock = some g → r ≠ some g) (hS : v1.ownBlock ≠ some S) :
    w'.ownsRow b1 e1 s1 v1 n1 x1 := by
  obtain ⟨h3, h4⟩ := h1
  refine ⟨h3, ?_⟩
  rcases h4 with h4 | ⟨g, cap, cur, hv, hgb, hh, r2⟩
  · exact .inl h4
  · exact .inr ⟨g, cap, cur, hv, hgb, (hg.block g (blk_lt hh) (fun e => hS (by rw [hv, ← e]; rfl)) (hne g (by rw [hv]; rfl))).trans hh, r2⟩

/-- The rows of edges while they are being made: each lies in a block of its own. -/
structure OutB (w : World) (O st : Nat) (es : List Edge) (R : Nat → Value) : Prop where
  out : w.rowIs O 22 st R
  row : ∀ q, q < st → ∃ A c, R q = .slice A (rowQ es q).length c ∧ w.ownsRow (O + 1) 35 4 (.slice A (rowQ es q).length c) (rowQ es q).length (flat edgeCells (rowQ es q))
  dis : ∀ q q', q < st → q' < st → q ≠ q' → ∀ g, (R q).ownBlock = some g → (R q').ownBlock ≠ some g
theorem OutB.start {w : World} {O st : Nat} (h : w.rowIs O 22 st (fun _ => .slice none 0 0)) : OutB w O st [] (fun _ => .slice none 0 0) :=
  ⟨h, fun _ _ => ⟨none, 0, rfl, World.ownsRow_nil _ _ _ _⟩, fun _ _ _ _ _ g hg => by simp [Value.ownBlock] at hg⟩
theorem OutB.at_ {w : World} {O st : Nat} {es : List Edge} {R : Nat → Value} (h : OutB w O st es R) : OutAt w O st es R :=
  ⟨h.out, fun q hq => by
    obtain ⟨A, c, h1, h2⟩ := h.row q hq
    exact ⟨A, c, h1, own_base h2 (Nat.zero_le _)⟩⟩
theorem OutB.alloc {w : World} {O st : Nat} {es : List Edge} {R : Nat → Value} (h : OutB w O st es R) (o : Obj) : OutB (w.alloc o) O st es R :=
  ⟨rowIs_alloc h.out o, fun q hq => by
    obtain ⟨A, c, h1, h2⟩ := h.row q hq
    exact ⟨A, c, h1, h2.alloc o⟩, h.dis⟩
theorem OutB.drewN {w : World} {O st : Nat} {es : List Edge} {R : Nat → Value} (h : OutB w O st es R) (n : Nat) : OutB (w.drewN n) O st es R := ⟨h.out, h.row, h.dis⟩
/-- One edge more. -/
theorem OutB.push {w w' : World} {O st f : Nat} {es : List Edge} {R : Nat → Value} {A A2 : Option Addr} {n c c2 : Nat} (h : OutB w O st es R) (e : Edge) (hf : e.frm = (f : Int)) (hfs : f < st) (hR : R f = .slice A n c)
    (hown : w'.ownsRow (O + 1) 35 4 (.slice A2 (n + 1) c2) (n + 1) (flat edgeCells (rowQ es f) ++ edgeCells e)) (hg : w.grownBy w' (Value.slice A n c).ownBlock)
    (hn : ∀ k, (Value.slice A2 (n + 1) c2).ownBlock = some k → (Value.slice A n c).ownBlock = some k ∨ w.heap.size ≤ k) :
    OutB (w'.setCell ⟨O, f, none⟩ (.slice A2 (n + 1) c2)) O st (es ++ [e]) (fun x => if x = f then .slice A2 (n + 1) c2 else R x) := by
  obtain ⟨A0, c0, hR0, hown0⟩ := h.row f hfs
  rw [hR] at hR0
  simp only [Value.slice.injEq] at hR0
  obtain ⟨rfl, hnl, rfl⟩ := hR0
  have hlO : (Value.slice A n c).ownBlock ≠ some O := by rw [hnl]; exact own_ne_lt hown0 (Nat.lt_succ_self O)
  refine ⟨?_, fun q hq => ?_, fun q q' hq hq' hne g hg1 => ?_⟩
  · refine World.rowIs.congr ((rowIs_grown h.out hg hlO).set f _) ?_
    intro x _
    by_cases hx : x = f <;> simp [hx]
  · by_cases hqf : q = f
    · subst hqf
      refine ⟨A2, c2, ?_, ?_⟩
      · rw [if_pos rfl, rowQ_snoc_yes hf, List.length_append, ← hnl]
        rfl
      · rw [rowQ_snoc_yes hf, List.length_append, ← hnl, flat_append, flat_one]
        exact ownsRow_setCell_below hown (a := ⟨O, q, none⟩) (by simp) _
    · obtain ⟨A1, c1, h1, h2⟩ := h.row q hq
      refine ⟨A1, c1, ?_, ?_⟩
      · rw [if_neg hqf, rowQ_snoc_no (by rw [hf]; omega)]
        exact h1
      · rw [rowQ_snoc_no (by rw [hf]; omega)]
        refine ownsRow_setCell_below (own_grown_ne h2 hg ?_) (a := ⟨O, f, none⟩) (by simp) _
        intro g hg1 hg2
        rw [← h1] at hg1
        rw [← hR] at hg2
        exact h.dis q f hq hfs hqf g hg1 hg2
  · have hlt : ∀ x, x < st → ∀ k, (R x).ownBlock = some k → k < w.heap.size := by
      intro x hx k hk
      obtain ⟨A1, c1, h1, h2⟩ := h.row x hx
      rw [h1] at hk
      obtain ⟨_, h3⟩ := h2
      rcases h3 with ⟨hv, _⟩ | ⟨g', cap, cur, hv, _, hh, _⟩
      · rw [hv] at hk; simp [Value.ownBlock] at hk
      · rw [hv] at hk
        simp [Value.ownBlock] at hk
        subst hk
        exact blk_lt hh
    by_cases hqf : q = f
    · rw [if_pos hqf] at hg1
      rw [if_neg (by omega)]
      rcases hn g hg1 with h1 | h1
      · rw [← hR] at h1
        exact h.dis f q' hfs hq' (by omega) g h1
      · intro h2
        have := hlt q' hq' g h2
        omega
    · rw [if_neg hqf] at hg1
      by_cases hqf' : q' = f
      · rw [if_pos hqf']
        intro h2
        rcases hn g h2 with h1 | h1
        · rw [← hR] at h1
          exact h.dis q f hq hfs hqf g hg1 h1
        · have := hlt q hq g hg1
          omega
      · rw [if_neg hqf']
        exact h.dis q q' hq hq' hne g hg1

/-- A row of ints of the call's own: not the marks', above N. -/
structure OwnV (w : World) (N S : Nat) (v : Value) (xs : List Int) : Prop where
  own : w.ownsRow 0 3 1 v xs.length (ints xs)
  ge : ∀ g, v.ownBlock = some g → N ≤ g
  neS : v.ownBlock ≠ some S
theorem OwnV.alloc {w : World} {N S : Nat} {v : Value} {xs : List Int} (h : OwnV w N S v xs) (o : Obj) : OwnV (w.alloc o) N S v xs := ⟨h.own.alloc o, h.ge, h.neS⟩
theorem OwnV.drewN {w : World} {N S : Nat} {v : Value} {xs : List Int} (h : OwnV w N S v xs) (n : Nat) : OwnV (w.drewN n) N S v xs := ⟨h.own, h.ge, h.neS⟩
theorem OwnV.set {w : World} {N S : Nat} {v : Value} {xs : List Int} (h : OwnV w N S v xs) (i : Nat) (u : Value) : OwnV (w.setCell ⟨S, i, none⟩ u) N S v xs := ⟨ownsRow_setCell_other h.own (a := ⟨S, i, none⟩) h.neS u, h.ge, h.neS⟩
theorem OwnV.other {w w' : World} {N S : Nat} {v : Value} {xs : List Int} {r : Option Nat} (h : OwnV w N S v xs) (hg : w.grownBy w' r) (hd : ∀ g, v.ownBlock = some g → r ≠ some g) : OwnV w' N S v xs := ⟨own_grown_ne h.own hg hd, h.ge, h.neS⟩
theorem OwnV.touch {w w' : World} {N S : Nat} {v : Value} {xs : List Int} {r : Option Nat} (h : OwnV w N S v xs) (hg : Touch S r w w') (hd : ∀ g, v.ownBlock = some g → r ≠ some g) : OwnV w' N S v xs := ⟨own_touch h.own hg hd h.neS, h.ge, h.neS⟩
theorem OwnV.form {w : World} {N S : Nat} {v : Value} {xs : List Int} (h : OwnV w N S v xs) : ∃ A c, v = .slice A xs.length c ∧ OwnV w N S (.slice A xs.length c) xs := by
  obtain ⟨A, c, rfl, h1⟩ := own_form h.own
  exact ⟨A, c, rfl, h1, h.ge, h.neS⟩
theorem OwnV.lt {w : World} {N S : Nat} {v : Value} {xs : List Int} (h : OwnV w N S v xs) (g : Nat) (hg : v.ownBlock = some g) : g < w.heap.size := by
  obtain ⟨_, h3⟩ := h.own
  rcases h3 with ⟨hv, _⟩ | ⟨g', cap, cur, hv, _, hh, _⟩
  · rw [hv] at hg; simp [Value.ownBlock] at hg
  · rw [hv] at hg
    simp [Value.ownBlock] at hg
    subst hg
    exact blk_lt hh

/-- What stays while a text is matched. -/
structure MBase (N B O st : Nat) (es : List Edge) (R : Nat → Value) (A : Option Addr) (c : Nat) (w wr : World) : Prop where
  below : Below N w wr
  box : wr.heap[B]? = some (.cells #[.int .i64 st, .int .i64 0, .int .i64 1, .slice A es.length c] 24 (0, 0))
  out : OutAt wr O st es R
theorem MBase.keep {N B O st : Nat} {es : List Edge} {R : Nat → Value} {A : Option Addr} {c : Nat} {w wr wx : World} (h : MBase N B O st es R A c w wr) (hb : Below N wr wx) (hk : KeepI wr wx) : MBase N B O st es R A c w wx :=
  ⟨h.below.trans hb, hk _ _ _ h.box (by decide), h.out.keep hk⟩
theorem MBase.alloc {N B O st : Nat} {es : List Edge} {R : Nat → Value} {A : Option Addr} {c : Nat} {w wr : World} (h : MBase N B O st es R A c w wr) (hN : N ≤ wr.heap.size) (o : Obj) : MBase N B O st es R A c w (wr.alloc o) :=
  h.keep ((Below.refl _ _).alloc hN o) (KeepI.alloc _ _)
theorem MBase.set {N B O st S n : Nat} {es : List Edge} {R : Nat → Value} {A : Option Addr} {c : Nat} {w wr : World} {f : Nat → Value} (h : MBase N B O st es R A c w wr) (hS : wr.rowIs S 3 n f) (hN : N ≤ S) (i : Nat) (v : Value) : MBase N B O st es R A c w (wr.setCell ⟨S, i, none⟩ v) :=
  h.keep ((Below.refl _ _).setCell (p := ⟨S, i, none⟩) hN v) (KeepI.set hS i v)
theorem MBase.drewN {N B O st : Nat} {es : List Edge} {R : Nat → Value} {A : Option Addr} {c : Nat} {w wr : World} (h : MBase N B O st es R A c w wr) (n : Nat) : MBase N B O st es R A c w (wr.drewN n) :=
  ⟨below_drewN h.below n, h.box, h.out.keep (KeepI.drewN _ _)⟩
theorem grown_below {N : Nat} {w w' : World} {r : Option Nat} (hg : w.grownBy w' r) (hN : N ≤ w.heap.size) (hr : ∀ g, r = some g → N ≤ g) : Below N w w' :=
  ⟨hg.os, hg.tape, hg.output, hg.size, fun k hk => hg.block k (by omega) (fun e => by have := hr k e.symm; omega)⟩
theorem MBase.grown {N B O st S : Nat} {es : List Edge} {R : Nat → Value} {A : Option Addr} {c : Nat} {w wr wx : World} {v : Value} {xs : List Int} (h : MBase N B O st es R A c w wr) (hv : OwnV wr N S v xs) (hg : wr.grownBy wx v.ownBlock) (hN : N ≤ wr.heap.size) : MBase N B O st es R A c w wx :=
  h.keep (grown_below hg hN hv.ge) (KeepI.grown hv.own hg)
theorem MBase.touch {N B O st S n : Nat} {es : List Edge} {R : Nat → Value} {A : Option Addr} {c : Nat} {w wr wx : World} {v : Value} {xs : List Int} {f : Nat → Value} (h : MBase N B O st es R A c w wr) (hS : wr.rowIs S 3 n f) (hv : OwnV wr N S v xs) (ht : Touch S v.ownBlock wr wx) (hN : N ≤ wr.heap.size) (hNS : N ≤ S) (ho : OutAt wx O st es R) : MBase N B O st es R A c w wx := by
  refine ⟨h.below.trans (ht.below hN hNS hv.ge), ?_, ho⟩
  have hBS : B ≠ S := by
    rintro rfl
    obtain ⟨cs, hc, _⟩ := hS
    rw [h.box] at hc
    simp at hc
  exact (ht.block B (blk_lt h.box) hBS (own_ne hv.own h.box (by decide))).trans h.box
end Go.Proofs.Ytaefhfldgemcnaa
