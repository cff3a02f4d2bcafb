/- Keys that are rows of integers; what has been met: a map and a list, plain. -/
import Derived.Test.YtghlodpbbghcoaaGreatDoorEA
import Derived.Test.YtghlodpbbghcoaaGreatDoorFrame
import Derived.Maps.OwnSet
import Derived.Maps.Views
import Derived.Maps.OwnOps
import Derived.Maps.AppendAt
import Derived.Deep.AppendLies
import Derived.Deep.RegionLaw
import Derived.StillTailTactics
namespace Go.Proofs.YtghlodpbbghcoaaGreatDoor
open Go.RowKit Go.Maps
theorem mapM_all {α β : Type} (f : α → Option β) : ∀ (l : List α), (∀ i ∈ l, ∃ y, f i = some y) → ∃ ys, l.mapM f = some ys
  | [], _ => ⟨[], rfl⟩
  | a :: l, h => by
    obtain ⟨y, hy⟩ := h a (by simp)
    obtain ⟨ys, hys⟩ := mapM_all f l (fun i hi => h i (by simp [hi]))
    exact ⟨y :: ys, by simp [List.mapM_cons, hy, hys]⟩
/-- A row of n integers reads as a key. -/
theorem arr_key {P : Program} {k e : TypeId} {n d : Nat} {q : IntKind} (hu : P.underlying k = some (.array n e)) (he : P.underlying e = some (.int q)) (hce : P.cellsOf e = 1) (hck : P.cellsOf k = n) (hkt : P.keyType k = true) (hd : P.types.size = d + 1)
    (cs : Array Value) (hs : cs.size = n) (hf : (Value.agg cs).formed P k = true) (h : ∀ i, i < n → ∃ a, cs[i]? = some (.int q a) ∧ (Lit.int q a).wf = true) : ∃ l, keyOf P k (.agg cs) = some l := by
  unfold keyOf
  simp only [hu, hkt, hf, Bool.and_self, if_true, hd]
  have hc : (Value.agg cs).cells.toList = cs.toList := rfl
  rw [hc, Program.keyLits]
  simp only [hck, Array.length_toList, hs, if_true]
  obtain ⟨ys, hys⟩ := mapM_all (fun i => P.keyLits (d + 1) e ((cs.toList.drop (i * P.cellsOf e)).take (P.cellsOf e))) (List.range n) (by
    intro i hi
    rw [List.mem_range] at hi
    obtain ⟨a, ha, hw⟩ := h i hi
    refine ⟨[.int q a], ?_⟩
    have e1 : (cs.toList.drop (i * P.cellsOf e)).take (P.cellsOf e) = [.int q a] := by
      rw [hce, Nat.mul_one]
      have hi2 : i < cs.toList.length := by simpa [hs] using hi
      rw [List.drop_eq_getElem_cons hi2]
      have : cs.toList[i] = .int q a := by
        have := List.getElem?_eq_getElem hi2
        rw [Array.getElem?_toList, ha] at this
        exact (Option.some.inj this).symm
      rw [this]
      rfl
    show P.keyLits (d + 1) e ((cs.toList.drop (i * P.cellsOf e)).take (P.cellsOf e)) = _
    rw [e1]
    simp only [Program.keyLits, he]
    simp [hw])
  rw [hys]
  · exact ⟨_, rfl⟩
  · exact hu
theorem law162 : Keyed Tryz.prog 162 := Keyed.of_law (deep_law_laid Tryz.laidOut (m := 2) (by omega) (of_decide_eq_true (by kernel_rfl)) (by kernel_rfl) (by rw [Tryz.underlying162]))
theorem key162 (x : Nat) (hx : x < 256) : ∃ l, keyOf Tryz.prog 162 (.agg (setV x)) = some l := by
  refine arr_key (d := 254) Tryz.underlying162 Tryz.underlying160 (by kernel_rfl) (by kernel_rfl) (by kernel_rfl) (by kernel_rfl) (setV x) rfl (by simp [Value.formed, Tryz.underlying162, show Tryz.prog.cellsOf 162 = 8 by kernel_rfl, setV]) ?_
  intro i hi
  match i, hi with
  | 0, _ => exact ⟨x, rfl, by simp [Lit.wf, IntKind.min, IntKind.max, IntKind.signed, IntKind.bits]; omega⟩
  | 1, _ | 2, _ | 3, _ | 4, _ | 5, _ | 6, _ | 7, _ => exact ⟨0, rfl, by decide⟩
/-- What has been met: the map D numbers just the list's members, each where it stands first. -/
structure MetD {α : Type} (kl : α → Lit) (ok : α → Prop) (D : DataW Unit) (l : List α) : Prop where
  isMap : IsMap D
  has : ∀ a, ok a → (Maps.has D (kl a) = true ↔ a ∈ l)
  at_ : ∀ a, ok a → a ∈ l → ∃ j : Nat, j < l.length ∧ D.atKey (kl a) (.lit (.int .i64 0)) = .lit (.int .i64 j)
  nodup : l.Nodup
  all : ∀ a ∈ l, ok a
theorem MetD.nil {α : Type} (kl : α → Lit) (ok : α → Prop) : MetD kl ok (.map []) [] :=
  ⟨isMap_empty, fun a _ => by simp [Maps.has], fun a _ h => by simp at h, List.nodup_nil, fun a h => by simp at h⟩
theorem MetD.push {α : Type} {kl : α → Lit} {ok : α → Prop} {D : DataW Unit} {l : List α} (h : MetD kl ok D l) (hk : ∀ a, ok a → WideAt.IsKeyLit (kl a)) (hi : ∀ a b, ok a → ok b → kl a = kl b → a = b) {a : α} (ha : ok a) (hn : a ∉ l) :
    MetD kl ok (D.put (kl a) (.lit (.int .i64 (l.length : Nat)))) (l ++ [a]) := by
  refine ⟨h.isMap.put _ _, fun b hb => ?_, fun b hb hm => ?_, ?_, ?_⟩
  · by_cases e : b = a
    · subst e
      rw [has_put_same h.isMap (hk b hb)]
      simp
    · rw [has_put_other (fun e2 => e (hi _ _ hb ha e2)), h.has b hb]
      simp [e]
  · by_cases e : b = a
    · subst e
      exact ⟨l.length, by simp, atKey_put_same h.isMap (hk b hb) _ _⟩
    · have hm2 : b ∈ l := by simpa [e] using hm
      obtain ⟨j, hj, hat⟩ := h.at_ b hb hm2
      exact ⟨j, by simp; omega, by rw [atKey_put_other (fun e2 => e (hi _ _ hb ha e2))]; exact hat⟩
  · rw [List.nodup_append]
    exact ⟨h.nodup, by simp, fun x hx y hy => by simp at hy; subst hy; exact fun e => hn (e ▸ hx)⟩
  · intro b hb
    rcases List.mem_append.1 hb with h1 | h1
    · exact h.all b h1
    · simp at h1; subst h1; exact ha
end Go.Proofs.YtghlodpbbghcoaaGreatDoor

/- (*met[set]).add of package dfa: walked. -/
namespace Go.Proofs.YtghlodpbbghcoaaGreatDoor
open Go.RowKit Go.Maps
noncomputable def kl162 (x : Nat) : Lit := (keyOf Tryz.prog 162 (.agg (setV x))).getD (.bool false)
theorem kl162_key {x : Nat} (hx : x < 256) : keyOf Tryz.prog 162 (.agg (setV x)) = some (kl162 x) := by
  obtain ⟨l, hl⟩ := key162 x hx
  unfold kl162
  rw [hl]
  rfl
theorem kl162_inj {x y : Nat} (hx : x < 256) (hy : y < 256) (h : kl162 x = kl162 y) : x = y := by
  have h1 := kl162_key hx
  have h2 := kl162_key hy
  rw [h] at h1
  have := law162.inj h1 h2
  simp only [setV, Value.agg.injEq] at this
  have h3 := congrArg (fun a : Array Value => a[0]?) this
  simp at h3
  omega
theorem zeroE3 (w : World) : (zeroValue 3).run Tryz.prog w = .ok (.int .i64 0) w := by kernel_rfl
def setL (x : Nat) : List Value := (setV x).toList
/-- Every block that lay is as it was, but those of O. -/
structure KeepO (O : Nat → Prop) (w w' : World) : Prop where
  os : w'.os = w.os
  tape : w'.tape = w.tape
  output : w'.output = w.output
  size : w.heap.size ≤ w'.heap.size
  block : ∀ g, g < w.heap.size → ¬ O g → w'.heap[g]? = w.heap[g]?
theorem KeepO.of_below {O : Nat → Prop} {w w' : World} (h : Below w.heap.size w w') : KeepO O w w' := ⟨h.os, h.tape, h.output, h.size, fun g hg _ => h.block g hg⟩
theorem KeepO.alloc {O : Nat → Prop} {a w : World} (h : KeepO O a w) (o : Obj) : KeepO O a (w.alloc o) :=
  ⟨h.os, h.tape, h.output, by have := h.size; simp; omega, fun g hg hO => (Below.heap_alloc w o g (Nat.lt_of_lt_of_le hg h.size)).trans (h.block g hg hO)⟩
theorem KeepO.drew {O : Nat → Prop} {a w : World} (h : KeepO O a w) : KeepO O a w.drew := ⟨h.os, h.tape, h.output, h.size, h.block⟩
theorem KeepO.grown {O : Nat → Prop} {a w w' : World} {row : Option Nat} (h : KeepO O a w) (hg : w.grownBy w' row) (hr : ∀ k, row = some k → O k) : KeepO O a w' :=
  ⟨hg.os.trans h.os, hg.tape.trans h.tape, hg.output.trans h.output, Nat.le_trans h.size hg.size, fun g hga hO => (hg.block g (Nat.lt_of_lt_of_le hga h.size) (fun e => hO (hr g e.symm))).trans (h.block g hga hO)⟩
theorem KeepO.setCell {O : Nat → Prop} {a w : World} (h : KeepO O a w) {p : Addr} (hp : O p.block) (u : Value) : KeepO O a (w.setCell p u) :=
  ⟨h.os, h.tape, h.output, by simpa using h.size, fun g hg hO => (Below.heap_setCell w p u g (fun e => hO (e ▸ hp))).trans (h.block g hg hO)⟩
/-- What has been met of sets below B: the box M, with its map and its list, in blocks of O. -/
structure MetSet (w : World) (M : Nat) (O : Nat → Prop) (B : Nat) (l : List Nat) : Prop where
  met : ∃ Mb A c D, w.heap[M]? = some (.cells #[.map (some Mb), .slice A l.length c] 194 (0, 0)) ∧ O M ∧ O Mb ∧ w.ownsMap Tryz.prog 162 (plainElem Tryz.prog 3) Mb l.length D ∧
    w.ownsRow 0 162 8 (.slice A l.length c) l.length (flat setL l) ∧ (∀ k, (Value.slice A l.length c).ownBlock = some k → O k) ∧ MetD kl162 (· < B) D l

theorem row_keep {w w' : World} {base n size : Nat} {e : TypeId} {v : Value} {xs : List Value} (h : w.ownsRow base e size v n xs) (hk : ∀ (g : Nat) (cs : Array Value), w.heap[g]? = some (.cells cs e (0, 0)) → w'.heap[g]? = w.heap[g]?) : w'.ownsRow base e size v n xs := by
  obtain ⟨h1, h2⟩ := h
  rcases h2 with h2 | ⟨g, cap, cur, hv, hb, hg, r⟩
  · exact ⟨h1, .inl h2⟩
  · exact ⟨h1, .inr ⟨g, cap, cur, hv, hb, (hk g cur hg).trans hg, r⟩⟩
theorem map_keep {H : Type} {P : Program} {k : TypeId} {R : Value → Option (DataW H × List MemPlace)} {w w' : World} {b n : Nat} {D : DataW H} (h : w.ownsMap P k R b n D) (e : w'.heap[b]? = w.heap[b]?) : w'.ownsMap P k R b n D := by
  obtain ⟨es, clock, h1, h2⟩ := h
  exact ⟨es, clock, e.trans h1, h2⟩
theorem own_ne_map {w : World} {base n size b : Nat} {e : TypeId} {v : Value} {xs : List Value} {es : Array MapEntry} {ck : Nat} (h : w.ownsRow base e size v n xs) (hb : w.heap[b]? = some (.map es ck)) : v.ownBlock ≠ some b := by
  rcases h.2 with ⟨rfl, _⟩ | ⟨g', cap, cur, rfl, _, hh, _⟩
  · simp [Value.ownBlock]
  · intro he
    simp [Value.ownBlock] at he
    rw [he, hb] at hh
    cases hh
theorem own_ge {w : World} {base n size k : Nat} {e : TypeId} {v : Value} {xs : List Value} (h : w.ownsRow base e size v n xs) (hk : v.ownBlock = some k) : base ≤ k := by
  rcases h.2 with ⟨rfl, _⟩ | ⟨g', cap, cur, rfl, hb, _⟩
  · simp [Value.ownBlock] at hk
  · simp [Value.ownBlock] at hk
    omega
theorem cells_blk {w : World} {g : Nat} {cs : Array Value} {T : TypeId} (h : w.heap[g]? = some (.cells cs T (0, 0))) : ∀ (j : Nat) (u : Value), cs.toList[j]? = some u → w.cell? ((⟨g, 0, none⟩ : Addr).add j) = some u := by
  intro j u hj
  have e : ((⟨g, 0, none⟩ : Addr).add j) = ⟨g, j, none⟩ := by unfold Addr.add; split <;> simp_all
  rw [e, blk_cell h j]
  simpa using hj
theorem setL_one (x : Nat) : ∀ u ∈ setL x, u.oneCell' = true := by
  intro u hu
  simp [setL, setV] at hu
  rcases hu with rfl | rfl <;> rfl

set_option maxRecDepth 8192 in
set_option maxHeartbeats 3200000 in
theorem add139_any (M B x : Nat) (O : Nat → Prop) (l : List Nat) (w : World) (hB : B ≤ 256) (hx : x < B) (hl : l.length ≤ 1000) (hm : MetSet w M O B l) :
    Calls Tryz.prog 139 #[.pointer (some ⟨M, 0, none⟩), .agg (setV x)] w fun e w' => (∃ (l' : List Nat) (j : Nat), e = .returned (.int .i64 j) ∧ j < l'.length ∧ l <+: l' ∧ MetSet w' M (fun g => O g ∨ (w.heap.size ≤ g ∧ g < w'.heap.size)) B l') ∧ KeepO O w w' := by
  obtain ⟨Mb, A, c, D, hM, hbM, hbb, hmap, hrow, hAO, hD⟩ := hm.met
  clear hm
  have hkx := kl162_key (show x < 256 by omega)
  have hML := blk_lt hM
  have hM1 := blk_alloc hM (.cells (setV x) 162)
  have c0 : (w.alloc (.cells (setV x) 162)).cell? ⟨M, 0, none⟩ = some (.map (some Mb)) := blk_cell hM1 0
  have c1 : (w.alloc (.cells (setV x) 162)).cell? ⟨M, 1, none⟩ = some (.slice A l.length c) := blk_cell hM1 1
  have hmap1 := Lib.hid (hmap.alloc (.cells (setV x) 162))
  have hbox : SetBlk (w.alloc (.cells (setV x) 162)) w.heap.size x := blk_new _ _
  have hB0 : KeepO O w (w.alloc (.cells (setV x) 162)) := KeepO.of_below ((Below.refl _ _).alloc (Nat.le_refl _) _)
  have hrow1 := Lib.hid (hrow.alloc (.cells (setV x) 162))
  have hM2 := Lib.hid hM1
  go_enter Tryz.func139, Tryz.ntmps139
  go_upto_region 1 with fail
  obtain ⟨X, hX⟩ : ∃ X, X = w.heap.size := ⟨_, rfl⟩
  rw [← hX] at hbox ⊢
  have hMX : M ≠ X := by omega
  have HX := Lib.hid hX
  clear hM1 hX
  generalize w.alloc (.cells (setV x) 162) = w0 at hM2 hrow1 hmap1 hbox c0 c1 hB0 ⊢
  unfold SetBlk setV at hbox
  have b0 : w0.cell? ⟨X, 0, none⟩ = some (.int .u64 x) := blk_cell hbox 0
  have b1 : w0.cell? ⟨X, 1, none⟩ = some (.int .u64 0) := blk_cell hbox 1
  have b2 : w0.cell? ⟨X, 2, none⟩ = some (.int .u64 0) := blk_cell hbox 2
  have b3 : w0.cell? ⟨X, 3, none⟩ = some (.int .u64 0) := blk_cell hbox 3
  have b4 : w0.cell? ⟨X, 4, none⟩ = some (.int .u64 0) := blk_cell hbox 4
  have b5 : w0.cell? ⟨X, 5, none⟩ = some (.int .u64 0) := blk_cell hbox 5
  have b6 : w0.cell? ⟨X, 6, none⟩ = some (.int .u64 0) := blk_cell hbox 6
  have b7 : w0.cell? ⟨X, 7, none⟩ = some (.int .u64 0) := blk_cell hbox 7
  have Hbox := Lib.hid hbox
  have Hkx := Lib.hid hkx
  unfold setV at Hkx
  obtain ⟨v, ps, hrun, hv⟩ := hmap1.out.drew.look_ok law162 Tryz.underlying192 (zeroE3 w0.drew) (plainElem_int Tryz.underlying3 (by decide)) Hkx.out
  obtain ⟨cc, rfl, hat, _⟩ := plainElem_int_inv Tryz.underlying3 hv
  have hat : Hid (D.atKey (kl162 x) (.lit (.int .i64 0)) = .lit (.int .i64 cc)) := congrArg Prod.fst hat
  clear hbox hkx hM hmap hrow hv
  have hhas := hD.has x hx
  by_cases hin : x ∈ l
  · have hyes := hhas.2 hin
    rw [hyes] at hrun
    obtain ⟨j, hj, hatj⟩ := hD.at_ x hx hin
    have hcj : cc = (j : Int) := by
      have := hat.out.symm.trans hatj
      simpa using this
    subst hcj
    go_region
    go_wp2_with fail
    go_ret
    exact ⟨⟨l, j, rfl, hj, List.prefix_rfl, ⟨Mb, A, c, D, hM2.out, Or.inl hbM, Or.inl hbb, hmap1.out.drew, hrow1.out, fun k hk => Or.inl (hAO k hk), hD⟩⟩, hB0.drew⟩
  · have hno : Maps.has D (kl162 x) = false := by
      cases h : Maps.has D (kl162 x)
      · rfl
      · exact absurd (hhas.1 h) hin
    rw [hno] at hrun
    go_region
    go_upto_region 4 with fail
    have hM3 : Hid (w0.drew.heap[M]? = some (.cells #[.map (some Mb), .slice A l.length c] 194 (0, 0))) := hM2.out
    have hbox3 : Hid (w0.drew.heap[X]? = some (.cells #[.int .u64 x, .int .u64 0, .int .u64 0, .int .u64 0, .int .u64 0, .int .u64 0, .int .u64 0, .int .u64 0] 162 (0, 0))) := Hbox.out
    have hrow3 : Hid (w0.drew.ownsRow 0 162 8 (.slice A l.length c) l.length (flat setL l)) := hrow1.out
    have hmap3 : Hid (w0.drew.ownsMap Tryz.prog 162 (plainElem Tryz.prog 3) Mb l.length D) := hmap1.out
    have hB3 : Hid (KeepO O w w0.drew) := hB0.drew
    generalize w0.drew = w3 at hM3 hbox3 hrow3 hmap3 hB3 ⊢
    clear hM2 Hbox hrow1 hmap1 hB0 c0 c1 b0 b1 b2 b3 b4 b5 b6 b7 hrun
    have c0 : w3.cell? ⟨M, 0, none⟩ = some (.map (some Mb)) := blk_cell hM3.out 0
    have b0 : w3.cell? ⟨X, 0, none⟩ = some (.int .u64 x) := blk_cell hbox3.out 0
    have b1 : w3.cell? ⟨X, 1, none⟩ = some (.int .u64 0) := blk_cell hbox3.out 1
    have b2 : w3.cell? ⟨X, 2, none⟩ = some (.int .u64 0) := blk_cell hbox3.out 2
    have b3 : w3.cell? ⟨X, 3, none⟩ = some (.int .u64 0) := blk_cell hbox3.out 3
    have b4 : w3.cell? ⟨X, 4, none⟩ = some (.int .u64 0) := blk_cell hbox3.out 4
    have b5 : w3.cell? ⟨X, 5, none⟩ = some (.int .u64 0) := blk_cell hbox3.out 5
    have b6 : w3.cell? ⟨X, 6, none⟩ = some (.int .u64 0) := blk_cell hbox3.out 6
    have b7 : w3.cell? ⟨X, 7, none⟩ = some (.int .u64 0) := blk_cell hbox3.out 7
    go_still_tail 6, (by kernel_rfl)
    change wpList _ _ _ _ _ w3.drew
    have hM4 : Hid (w3.drew.heap[M]? = some (.cells #[.map (some Mb), .slice A l.length c] 194 (0, 0))) := hM3.out
    have hbox4 : Hid (w3.drew.heap[X]? = some (.cells #[.int .u64 x, .int .u64 0, .int .u64 0, .int .u64 0, .int .u64 0, .int .u64 0, .int .u64 0, .int .u64 0] 162 (0, 0))) := hbox3.out
    have hrow4 : Hid (w3.drew.ownsRow 0 162 8 (.slice A l.length c) l.length (flat setL l)) := hrow3.out
    have hmap4 : Hid (w3.drew.ownsMap Tryz.prog 162 (plainElem Tryz.prog 3) Mb l.length D) := hmap3.out
    have hB4 : Hid (KeepO O w w3.drew) := hB3.out.drew
    generalize w3.drew = w4 at hM4 hbox4 hrow4 hmap4 hB4 ⊢
    clear hM3 hbox3 hrow3 hmap3 hB3 c0 b0 b1 b2 b3 b4 b5 b6 b7
    go_wp2_with (at_mapUpdate; refine wpList_mapUpdate_own _ rfl _ _ _ 192 rfl 162 3 law162 Tryz.underlying192 (plainElem Tryz.prog 3) Mb l.length D rfl hmap4.out (by unfold maxLen; omega) _ _ _ rfl rfl Hkx.out _ _ (plainElem_int Tryz.underlying3 (by simp [Lit.wf, IntKind.min, IntKind.max, IntKind.signed, IntKind.bits]; omega)) ?_; intro w5 hmap5 hg5)
    have hMb : ∃ es ck, w4.heap[Mb]? = some (.map es ck) := by obtain ⟨es, ck, h, _⟩ := hmap4.out; exact ⟨es, ck, h⟩
    obtain ⟨es, ck, hMb⟩ := hMb
    have hne : ∀ (g : Nat) (cs : Array Value) (T : TypeId), w4.heap[g]? = some (.cells cs T (0, 0)) → w5.heap[g]? = w4.heap[g]? := fun g cs T hg => hg5.block g (blk_lt hg) (fun e => by
      have e2 : Mb = g := by simp at e; exact e.symm
      rw [e2, hg] at hMb
      cases hMb)
    have hM5 : Hid (w5.heap[M]? = some (.cells #[.map (some Mb), .slice A l.length c] 194 (0, 0))) := (hne _ _ _ hM4.out).trans hM4.out
    have hbox5 : Hid (w5.heap[X]? = some (.cells #[.int .u64 x, .int .u64 0, .int .u64 0, .int .u64 0, .int .u64 0, .int .u64 0, .int .u64 0, .int .u64 0] 162 (0, 0))) := (hne _ _ _ hbox4.out).trans hbox4.out
    have hrow5 : Hid (w5.ownsRow 0 162 8 (.slice A l.length c) l.length (flat setL l)) := row_keep hrow4.out (fun g cs hg => hne g cs _ hg)
    have hB5 : Hid (KeepO O w w5) := hB4.out.grown hg5 (fun k hk => by have e : Mb = k := (by simpa using hk); rw [← e]; exact hbb)
    have hmap5' := Lib.hid hmap5
    have hML5 : M < w5.heap.size := blk_lt hM5.out
    have hXL5 : X < w5.heap.size := blk_lt hbox5.out
    clear hmap5 hg5 hne hMb hM4 hbox4 hrow4 hmap4 hB4
    have c1 : w5.cell? ⟨M, 1, none⟩ = some (.slice A l.length c) := blk_cell hM5.out 1
    have b0 : w5.cell? ⟨X, 0, none⟩ = some (.int .u64 x) := blk_cell hbox5.out 0
    have b1 : w5.cell? ⟨X, 1, none⟩ = some (.int .u64 0) := blk_cell hbox5.out 1
    have b2 : w5.cell? ⟨X, 2, none⟩ = some (.int .u64 0) := blk_cell hbox5.out 2
    have b3 : w5.cell? ⟨X, 3, none⟩ = some (.int .u64 0) := blk_cell hbox5.out 3
    have b4 : w5.cell? ⟨X, 4, none⟩ = some (.int .u64 0) := blk_cell hbox5.out 4
    have b5 : w5.cell? ⟨X, 5, none⟩ = some (.int .u64 0) := blk_cell hbox5.out 5
    have b6 : w5.cell? ⟨X, 6, none⟩ = some (.int .u64 0) := blk_cell hbox5.out 6
    have b7 : w5.cell? ⟨X, 7, none⟩ = some (.int .u64 0) := blk_cell hbox5.out 7
    obtain ⟨i0, hi, hz0, hz1, hz2⟩ := info_parts made162
    have hzs : (Value.agg (setV 0)).cells.size = 8 := by decide
    have hrowA : ((w5.alloc (.cells #[.int .u64 x, .int .u64 0, .int .u64 0, .int .u64 0, .int .u64 0, .int .u64 0, .int .u64 0, .int .u64 0] 162)).drew).ownsRow 0 162 8 (.slice A l.length c) l.length (flat setL l) := hrow5.out.alloc _
    have hblkA : ((w5.alloc (.cells #[.int .u64 x, .int .u64 0, .int .u64 0, .int .u64 0, .int .u64 0, .int .u64 0, .int .u64 0, .int .u64 0] 162)).drew).heap[w5.heap.size]? = some (.cells (setV x) 162 (0, 0)) := blk_new _ _
    have hMA : ((w5.alloc (.cells #[.int .u64 x, .int .u64 0, .int .u64 0, .int .u64 0, .int .u64 0, .int .u64 0, .int .u64 0, .int .u64 0] 162)).drew).heap[M]? = some (.cells #[.map (some Mb), .slice A l.length c] 194 (0, 0)) := blk_alloc hM5.out _
    have hbA : 0 ≤ ((w5.alloc (.cells #[.int .u64 x, .int .u64 0, .int .u64 0, .int .u64 0, .int .u64 0, .int .u64 0, .int .u64 0, .int .u64 0] 162)).drew).heap.size := Nat.zero_le _
    have hM5' := hM5.out
    have HrowA := Lib.hid hrowA
    have HblkA := Lib.hid hblkA
    have HMA := Lib.hid hMA
    have HbA := Lib.hid hbA
    clear hrowA hblkA hMA hbA
    go_region_law (first
      | (refine step_append_lies ((w5.alloc (.cells #[.int .u64 x, .int .u64 0, .int .u64 0, .int .u64 0, .int .u64 0, .int .u64 0, .int .u64 0, .int .u64 0] 162)).drew) rfl (.tmp 33) (.tmp 35) 164 rfl 0 162 i0 _ 8 64 Tryz.underlying164 hi hz0 hz1 hz2 hzs (by decide) (.slice A l.length c) l.length (flat setL l) rfl HrowA.out ⟨w5.heap.size, 0, none⟩ 1 1 (setL x) rfl rfl (cells_blk HblkA.out) (setL_one x) (by omega) (by unfold maxLen; omega) (by omega) HbA.out _ rfl ?_
         intro g7 c7 w7 hown7 hg7 hat7 hlt7
         have hM7 : w7.heap[M]? = some (.cells #[.map (some Mb), .slice A l.length c] 194 (0, 0)) := blk_grown HMA.out hg7 (own_ne HrowA.out HMA.out (by decide))
         have c7' : w7.cell? ⟨M, 1, none⟩ = some (.slice A l.length c) := blk_cell hM7 1
         have f7 := blk_frozen hM7 1
         have HM7 := Lib.hid hM7
         clear hM7))
    all_goals go_wp2_with fail
    all_goals go_ret
    all_goals
      have hlen : (l ++ [x]).length = l.length + 1 := by simp
      have hm5 := hmap5'.out
      obtain ⟨es, ck, hMb, hrest⟩ := hmap5'.out
      have hMbl : Mb < w5.heap.size := blk_lt hMb
      have hMb7 : w7.heap[Mb]? = w5.heap[Mb]? := (hg7.block Mb (by show Mb < (w5.alloc _).heap.size; simp; omega) (own_ne_map hrow5.out hMb).symm).trans (Below.heap_alloc w5 _ Mb hMbl)
      have hMMb : M ≠ Mb := fun e => by rw [e, hMb] at hM5'; cases hM5'
      have hB7 : KeepO O w w7 := ((hB5.out.alloc _).drew).grown hg7 hAO
      have hw5 := hB5.out.size
      refine ⟨⟨l ++ [x], l.length, rfl, by simp, List.prefix_append _ _, ⟨Mb, some ⟨g7, 0, none⟩, c7, _, ?_, Or.inl hbM, Or.inl hbb, ?_, ?_, ?_, hD.push (fun a ha => law162.key (kl162_key (by omega))) (fun a b ha hb h => kl162_inj (by omega) (by omega) h) hx hin⟩⟩, ?_⟩
      · rw [hlen]
        exact blk_set_self HM7.out 1 _
      · rw [hlen]
        exact map_keep hm5 ((Below.heap_setCell w7 ⟨M, 1, none⟩ _ Mb (fun e => hMMb e.symm)).trans hMb7)
      · rw [hlen, flat_append, flat_one]
        refine row_keep hown7 (fun g cs hg => Below.heap_setCell w7 ⟨M, 1, none⟩ _ g (fun e => ?_))
        simp only at e
        rw [e, HM7.out] at hg
        simp at hg
      · intro k hk
        have hk7 : g7 = k := by simpa [Value.ownBlock] using hk
        subst hk7
        rcases hat7 with h | h
        · exact Or.inl (hAO _ h)
        · refine Or.inr ⟨?_, by simpa using hlt7⟩
          have : g7 = (w5.alloc (.cells (setV x) 162)).heap.size := h
          simp at this
          omega
      · exact hB7.setCell (p := ⟨M, 1, none⟩) hbM _
end Go.Proofs.YtghlodpbbghcoaaGreatDoor

/- meet[set] of package dfa at one set: walked. -/
namespace Go.Proofs.YtghlodpbbghcoaaGreatDoor
open Go.RowKit Go.Maps
theorem makeMap192 (w : World) : (Instr.makeMap 192 none).run Tryz.prog w = .ok (.map (some w.heap.size)) (w.alloc (.map #[] 0)) := by
  simp [Instr.makeMap, Result.andThen]

theorem row_keep_own {w w' : World} {base n size : Nat} {e : TypeId} {v : Value} {xs : List Value} (h : w.ownsRow base e size v n xs) (hk : ∀ g, v.ownBlock = some g → w'.heap[g]? = w.heap[g]?) : w'.ownsRow base e size v n xs := by
  obtain ⟨h1, h2⟩ := h
  rcases h2 with h2 | ⟨g, cap, cur, rfl, hb, hg, r⟩
  · exact ⟨h1, .inl h2⟩
  · exact ⟨h1, .inr ⟨g, cap, cur, rfl, hb, (hk g rfl).trans hg, r⟩⟩
theorem MetSet.keep {w w' : World} {M B : Nat} {O O' : Nat → Prop} {l : List Nat} (h : MetSet w M O B l) (hk : ∀ g, O g → w'.heap[g]? = w.heap[g]?) (hO : ∀ g, O g → O' g) : MetSet w' M O' B l := by
  obtain ⟨Mb, A, c, D, hM, h1, h2, hmap, hrow, hA, hD⟩ := h.met
  exact ⟨Mb, A, c, D, (hk M h1).trans hM, hO _ h1, hO _ h2, map_keep hmap (hk Mb h2), row_keep_own hrow (fun g hg => hk g (hA g hg)), fun k hk => hO k (hA k hk), hD⟩
theorem MetSet.alloc {w : World} {M B : Nat} {O : Nat → Prop} {l : List Nat} (h : MetSet w M O B l) (o : Obj) : MetSet (w.alloc o) M O B l := by
  obtain ⟨Mb, A, c, D, hM, h1, h2, hmap, hrow, hA, hD⟩ := h.met
  exact ⟨Mb, A, c, D, blk_alloc hM _, h1, h2, hmap.alloc _, hrow.alloc _, hA, hD⟩
theorem MetSet.len {w : World} {M B : Nat} {O : Nat → Prop} {l : List Nat} (h : MetSet w M O B l) : l.length ≤ B := by
  obtain ⟨Mb, A, c, D, hM, h1, h2, hmap, hrow, hA, hD⟩ := h.met
  have := Rx.nodup_range (l := l.map Int.ofNat) B (by
    rw [List.nodup_iff_pairwise_ne, List.pairwise_map]
    exact hD.nodup.imp (fun h e => h (by have e2 : (Int.ofNat _ : Int) = Int.ofNat _ := e; exact Int.ofNat.inj e2))) (by
    intro q hq
    obtain ⟨a, ha, rfl⟩ := List.mem_map.1 hq
    have := hD.all a ha
    exact ⟨by simp, by simpa using this⟩)
  simpa using this

set_option maxRecDepth 8192 in
set_option maxHeartbeats 3200000 in
theorem meet138_any (S B x : Nat) (w : World) (hB : B ≤ 256) (hx : x < B) (hS : SetBlk w S x) :
    Calls Tryz.prog 138 #[.slice (some ⟨S, 0, none⟩) 1 1] w fun e w' => (∃ (l' : List Nat) (M : Nat), e = .returned (.pointer (some ⟨M, 0, none⟩)) ∧ 0 < l'.length ∧ MetSet w' M (fun g => w.heap.size ≤ g ∧ g < w'.heap.size) B l') ∧ Below w.heap.size w w' := by
  have hSl := blk_lt hS
  have HS := Lib.hid hS
  have hmm := makeMap192
  have hown0 := World.ownsMap_made w Tryz.prog 162 (plainElem Tryz.prog 3 : Value → Option (DataW Unit × List MemPlace))
  have hmet0 : MetSet ((w.alloc (.map #[] 0)).alloc (.cells #[.map (some w.heap.size), .slice none 0 0] 194)) (w.heap.size + 1) (fun g => w.heap.size ≤ g ∧ g < w.heap.size + 2) B [] :=
    ⟨w.heap.size, none, 0, .map [], blk_new' (by simp), by omega, by omega, hown0.alloc _, World.ownsRow_nil _ _ _ _, fun k hk => by simp [Value.ownBlock] at hk, MetD.nil _ _⟩
  have hb0 : Below w.heap.size w ((w.alloc (.map #[] 0)).alloc (.cells #[.map (some w.heap.size), .slice none 0 0] 194)) := ((Below.refl _ _).alloc (Nat.le_refl _) _).alloc (by simp) _
  have HM : Hid (MetSet ((w.alloc (.map #[] 0)).alloc (.cells #[.map (some w.heap.size), .slice none 0 0] 194)) (w.heap.size + 1) (fun g => w.heap.size ≤ g ∧ g < ((w.alloc (.map #[] 0)).alloc (.cells #[.map (some w.heap.size), .slice none 0 0] 194)).heap.size) B []) := hmet0.keep (fun _ _ => rfl) (fun g hg => ⟨hg.1, by simp; omega⟩)
  have HB := Lib.hid hb0
  clear hmet0 hb0 hown0 hS
  go_enter Tryz.func138, Tryz.ntmps138
  go_upto_region 2 with fail
  generalize (w.alloc (.map #[] 0)).alloc (.cells #[.map (some w.heap.size), .slice none 0 0] 194) = w1 at HM HB ⊢
  go_wp2_with fail
  go_loopw [11] (fun i wr => ∃ (k : Nat) (l' : List Nat), i = .int .i64 k ∧ k ≤ 1 ∧ (k = 1 → 0 < l'.length) ∧ (k = 0 → l' = []) ∧ Hid (MetSet wr (w.heap.size + 1) (fun g => w.heap.size ≤ g ∧ g < wr.heap.size) B l') ∧ Hid (Below w.heap.size w wr)) (fun i _ => 1 - (intOf i).toNat)
  case atStart => exact ⟨0, [], rfl, by omega, by omega, fun _ => rfl, HM, HB⟩
  case round =>
    clear HM HB hmm
    obtain ⟨k, l', rfl, hk, hk1, hk0, hm, hb⟩ := hrel
    by_cases hlt : k < 1
    · have hk00 : k = 0 := by omega
      subst hk00
      have hl0 := hk0 rfl
      subst hl0
      have hbS : SetBlk wr S x := (hb.out.block S hSl).trans HS.out
      unfold SetBlk setV at hbS
      have b0 : wr.cell? ⟨S, 0, none⟩ = some (.int .u64 x) := blk_cell hbS 0
      have b1 : wr.cell? ⟨S, 1, none⟩ = some (.int .u64 0) := blk_cell hbS 1
      have b2 : wr.cell? ⟨S, 2, none⟩ = some (.int .u64 0) := blk_cell hbS 2
      have b3 : wr.cell? ⟨S, 3, none⟩ = some (.int .u64 0) := blk_cell hbS 3
      have b4 : wr.cell? ⟨S, 4, none⟩ = some (.int .u64 0) := blk_cell hbS 4
      have b5 : wr.cell? ⟨S, 5, none⟩ = some (.int .u64 0) := blk_cell hbS 5
      have b6 : wr.cell? ⟨S, 6, none⟩ = some (.int .u64 0) := blk_cell hbS 6
      have b7 : wr.cell? ⟨S, 7, none⟩ = some (.int .u64 0) := blk_cell hbS 7
      clear hbS
      have hm2 := Lib.hid (hm.out.alloc (.cells (setV x) 162))
      have hb2 := Lib.hid (hb.out.alloc hb.out.size (.cells (setV x) 162))
      have hw3 : Hid (wr.heap.size ≤ (wr.alloc (.cells (setV x) 162)).heap.size) := by show _ ≤ _; simp
      have hx2 := Lib.hid (blk_new wr (.cells (setV x) 162))
      obtain ⟨E, hE⟩ : ∃ E, E = wr.heap.size := ⟨_, rfl⟩
      rw [← hE] at hx2
      unfold setV at hm2 hb2 hx2 hw3
      go_upto_region 5 with fail
      generalize wr.alloc (.cells #[.int .u64 x, .int .u64 0, .int .u64 0, .int .u64 0, .int .u64 0, .int .u64 0, .int .u64 0, .int .u64 0] 162) = w3 at hm2 hb2 hx2 hw3 ⊢
      rw [← hE]
      clear hE b0 b1 b2 b3 b4 b5 b6 b7 hm hb
      have b0 : w3.cell? ⟨E, 0, none⟩ = some (.int .u64 x) := blk_cell hx2.out 0
      have b1 : w3.cell? ⟨E, 1, none⟩ = some (.int .u64 0) := blk_cell hx2.out 1
      have b2 : w3.cell? ⟨E, 2, none⟩ = some (.int .u64 0) := blk_cell hx2.out 2
      have b3 : w3.cell? ⟨E, 3, none⟩ = some (.int .u64 0) := blk_cell hx2.out 3
      have b4 : w3.cell? ⟨E, 4, none⟩ = some (.int .u64 0) := blk_cell hx2.out 4
      have b5 : w3.cell? ⟨E, 5, none⟩ = some (.int .u64 0) := blk_cell hx2.out 5
      have b6 : w3.cell? ⟨E, 6, none⟩ = some (.int .u64 0) := blk_cell hx2.out 6
      have b7 : w3.cell? ⟨E, 7, none⟩ = some (.int .u64 0) := blk_cell hx2.out 7
      go_wp2_with (go_at_call 139; refine (add139_any (w.heap.size + 1) B x (fun g => w.heap.size ≤ g ∧ g < wr.heap.size) [] w3 hB hx (by simp) hm2.out).mono ?_; rintro e w4 ⟨⟨l2, j2, rfl, hj2, hp2, hm4⟩, hb4⟩)
      go_roundw
      case rel => exact ⟨1, l2, by go_num, by omega, fun _ => by omega, fun h => by omega, hm4.keep (fun _ _ => rfl) (fun g hg => by have h1 := hb2.out.size; have h2 := hb4.size; have h3 := hw3.out; rcases hg with hg | hg <;> omega), hb2.out.trans ⟨hb4.os, hb4.tape, hb4.output, hb4.size, fun g hg => hb4.block g (Nat.lt_of_lt_of_le hg hb2.out.size) (fun h => by have := h.1; omega)⟩⟩
      case measure => simp [intOf]
    · have hk00 : k = 1 := by omega
      subst hk00
      go_wp2_with fail
      go_ret
      exact ⟨⟨l', _, rfl, by simpa using hk1, hm.out⟩, hb.out⟩
end Go.Proofs.YtghlodpbbghcoaaGreatDoor
