/- The law ModelStable, walked. -/
import Derived.Test.YtghlodpbbghcoaaDoorN20
import Derived.Test.YtghlodpbbghcoaaDoorN12
import Derived.Test.YtghlodpbbghcoaaDoorN33
import Derived.Test.YtghlodpbbghcoaaDoorN36
import Derived.Test.YtghlodpbbghcoaaDoorM8
namespace Go.Proofs.YtghlodpbbghcoaaDoor
open Go.Lib Go.RowKit Go.Shelf
/-- A row of nodes in memory: 40 at most, of texts that are not too long. -/
def RowOf (B : Nat) (w : World) (v : Value) (g : Fo) : Prop := ∃ (A : Option Addr) (n cap : Nat), v = .slice A n cap ∧ n = g.len ∧ n ≤ cap ∧ okF 400000 g ∧ g.size ≤ 40 ∧ (0 < n → ∃ b o, A = some ⟨b, o, none⟩ ∧ RowAt w B b o g)
theorem RowOf.below {B : Nat} {w w' : World} {v : Value} {g : Fo} (h : RowOf B w v g) (hb : Below B w w') : RowOf B w' v g := by
  obtain ⟨A, n, cap, h1, h2, h3, h4, h5, h6⟩ := h
  exact ⟨A, n, cap, h1, h2, h3, h4, h5, fun hp => by obtain ⟨b, o, e, hr⟩ := h6 hp; exact ⟨b, o, e, hr.below hb⟩⟩
theorem RowOf.of_inv {w w' : World} {v : Value} {l : List NCells} (h : RowInv w w' v l) (hok : okF 400000 (nFo l)) (hs : (nFo l).size ≤ 40) : RowOf w'.heap.size w' v (nFo l) := by
  obtain ⟨A, n, cap, rfl, hn, hc, hr⟩ := h.fineKids
  exact ⟨A, n, cap, rfl, hn, hc, hok, hs, fun hp => by obtain ⟨b, o, e, hr⟩ := hr hp; exact ⟨b, o, e, hr.at_ (fun k hk => hk.2)⟩⟩
theorem smallA_ok {al : List (ByteArray × ByteArray)} (h : smallA al) : okA al := ⟨h.1, fun p hp => by have := h.2 p hp; omega⟩
theorem smallF_ok : ∀ {f : Fo}, smallF f → okF 400000 f
  | .nil, _ => trivial
  | .node _ _ _ _ _ _, ⟨h1, h2, h3, h4, h5⟩ => ⟨by omega, smallA_ok h3, by omega, smallF_ok h4, smallF_ok h5⟩
theorem smallF_In : ∀ {f : Fo}, smallF f → f.size ≤ 40 → f.In
  | .nil, _, _ => trivial
  | .node _ _ al _ kids rest, ⟨h1, h2, h3, h4, h5⟩, hs => by
    have hk := Fo.len_size kids
    rw [Fo.size] at hs
    have hm : 1000 ≤ maxLen := by unfold maxLen; omega
    have := h3.1
    exact ⟨by omega, fun p hp => by (have := h3.2 p hp; omega), by omega, by omega, by omega, smallF_In h4 (by omega), smallF_In h5 (by omega)⟩
def MadeRow (w : World) (e : Ending) (w' : World) : Prop := ∃ (v : Value) (g : Fo), e = .returned v ∧ RowOf w'.heap.size w' v g ∧ Below w.heap.size w w'
theorem good12_v {B : Nat} {W : World} {v : Value} {f : Fo} (h : RowOf B W v f) (hin : f.In) (hB : B ≤ W.heap.size) : Calls Tryd.prog 12 #[v] W (MadeRow W) := by
  obtain ⟨A, n, cap, rfl, rfl, hc, _, hs, hr⟩ := h
  have hl := Fo.len_size f
  refine (good12_any f A cap B W hin hc (by unfold maxLen; omega) hB hr).mono ?_
  rintro e w' ⟨w1, v, out, rfl, h1, h2, h3, _, h4⟩
  exact ⟨v, nFo out, rfl, RowOf.of_inv h2 ((okF_of out h3).mono (by decide)) h4, h1.trans (h2.below.mono h1.size)⟩
set_option maxRecDepth 8192 in
theorem good13_v {B : Nat} {W : World} {v : Value} {f : Fo} (h : RowOf B W v f) (hin : f.In) (hB : B ≤ W.heap.size) : Calls Tryd.prog 13 #[v] W (MadeRow W) := by
  obtain ⟨A, n, cap, rfl, rfl, hc, _, hs, hr⟩ := h
  have hl := Fo.len_size f
  have h12 := good12_any f A cap B W hin hc (by unfold maxLen; omega) hB hr
  obtain ⟨n, hn⟩ : ∃ n, f.len = n := ⟨_, rfl⟩
  rw [hn] at h12 ⊢
  clear hn hr hc hl hs hin hB
  have h34 : Hid (∀ (w1 w2 : World) (v : Value) (out : List NCells), Below W.heap.size W w1 → RowInv w1 w2 v out → (∀ c ∈ out, okC 10000 c ∧ c.text.size ≤ 10000) → (nFo out).size ≤ 40 → Calls Tryd.prog 34 #[v] w2 (MadeRow W)) := Lib.hid (fun w1 w2 v out h1 h2 h3 h4 => by
    have hb2 := h2.below
    obtain ⟨A2, n2, cap2, rfl, hn2, hc2, hk2⟩ := h2.fineKids
    subst hn2
    refine (steady_ok (nFo out) A2 cap2 (NewB w1 w2) w2 (okF_of out h3) h4 hc2 (fun k hk => hk.2) hk2).mono ?_
    rintro e w3 ⟨v3, out3, rfl, g1, g2, g3⟩
    have hb3 := g1.below
    obtain ⟨A3, n3, cap3, rfl, hn3, hc3, hk3⟩ := g1.nrow
    refine ⟨_, nFo out3, rfl, ⟨A3, n3, cap3, rfl, hn3, hc3, okF_of out3 g2, by omega, fun hp => ?_⟩, h1.trans ((hb2.trans (hb3.mono hb2.size)).mono h1.size)⟩
    obtain ⟨b, o, e, hr⟩ := hk3 hp
    refine ⟨b, o, e, hr.at_ (fun k hk => ?_)⟩
    rcases hk with hk | hk
    · exact Nat.lt_of_lt_of_le hk.2 hb3.size
    · exact hk.2)
  go_enter Tryd.func13, Tryd.ntmps13
  go_wp2_with (first
    | (go_at_call 12; refine h12.mono ?_; rintro e w2 ⟨w1, v, out, rfl, g1, g2, g3, _, g4⟩)
    | (go_at_call 34; refine (h34.out w1 w2 v out g1 g2 g3 g4).mono ?_; rintro e w3 ⟨v3, g, rfl, k1, k2⟩))
  go_ret
  exact ⟨_, _, rfl, k1, k2⟩
/-- What the law holds on its way: three rows, the tables. -/
structure LawSt (w W : World) (vl vg vs : Value) (l g s : Fo) (Bl Bg Bs : Nat) : Prop where
  rl : RowOf Bl W vl l
  rg : RowOf Bg W vg g
  rs : RowOf Bs W vs s
  hl : Bl ≤ W.heap.size
  hg : Bg ≤ W.heap.size
  hs : Bs ≤ W.heap.size
  tabs : Tabs W
  max : MaxAt W
  below : Below w.heap.size w W
theorem LawSt.step {w W W' : World} {vl vg vs : Value} {l g s : Fo} {Bl Bg Bs : Nat} (h : LawSt w W vl vg vs l g s Bl Bg Bs) (hb : Below W.heap.size W W') : LawSt w W' vl vg vs l g s Bl Bg Bs :=
  ⟨h.rl.below (hb.mono h.hl), h.rg.below (hb.mono h.hg), h.rs.below (hb.mono h.hs), Nat.le_trans h.hl hb.size, Nat.le_trans h.hg hb.size, Nat.le_trans h.hs hb.size, tabs_below h.tabs hb, h.max.below hb, h.below.trans (hb.mono h.below.size)⟩
def IsB (b : Bool) (w : World) (e : Ending) (w' : World) : Prop := e = .returned (.bool b) ∧ Below w.heap.size w w'
theorem st14 {B : Nat} {W : World} {v : Value} {g : Fo} (h : RowOf B W v g) (hB : B ≤ W.heap.size) (hT : Tabs W) (hM : MaxAt W) : Calls Tryd.prog 14 #[v] W (IsB (stableB g) W) := by
  obtain ⟨A, n, cap, rfl, rfl, hc, hok, hs, hr⟩ := h
  have := Fo.height_size g
  exact stable_any A cap g (okF_Ok g hok) hok (by omega) (by omega) hc B W hT hM hB hr
theorem st15 {B : Nat} {W : World} {v : Value} {g : Fo} (h : RowOf B W v g) (hB : B ≤ W.heap.size) : Calls Tryd.prog 15 #[v] W (IsB (stableB g) W) := by
  obtain ⟨A, n, cap, rfl, rfl, hc, hok, hs, hr⟩ := h
  exact stable15_any A cap g hok (by omega) hc B W hB hr

set_option maxRecDepth 100000 in
set_option maxHeartbeats 6400000 in
theorem modelStable_any (A : Option Addr) (cap : Nat) (f : Fo) (hf : f.In) (hc : f.len ≤ cap) (hl : f.len ≤ maxLen) (B : Nat) (w : World) (hT : Tabs w) (hM : MaxAt w) (hB : B ≤ w.heap.size) (hr : 0 < f.len → ∃ b o, A = some ⟨b, o, none⟩ ∧ RowAt w B b o f) :
    Calls Tryd.prog 4 #[.slice A f.len cap] w fun e w' => e = .returned (.bool true) ∧ Below w.heap.size w w' := by
  have hfew := few_any f A cap B w hf hc hl hB hr
  obtain ⟨nf, hnf⟩ : ∃ n, f.len = n := ⟨_, rfl⟩
  rw [hnf] at hfew ⊢
  replace hT := Lib.hid hT
  replace hM := Lib.hid hM
  clear hnf hr hc hl hf hB
  go_enter Tryd.func4, Tryd.ntmps4
  go_upto_region 4 with (first
    | (go_at_call 11; refine hfew.mono ?_; rintro e w1 ⟨vl, l, rfl, h1, h2, h3⟩; have hIn := Lib.hid (smallF_In h2 h3); have hl1 := Lib.hid (RowOf.of_inv h1 (smallF_ok h2) h3); have hb1 := Lib.hid h1.below; clear h1 h2 h3)
    | (go_at_call 12; refine (good12_v hl1.out hIn.out (Nat.le_refl _)).mono ?_; rintro e w2 ⟨vg, g, rfl, g1, g2⟩; replace g1 := Lib.hid g1; replace g2 := Lib.hid g2)
    | (go_at_call 13; refine (good13_v (hl1.out.below g2.out) hIn.out g2.out.size).mono ?_; rintro e w3 ⟨vs, s, rfl, s1, s2⟩; replace s1 := Lib.hid s1; replace s2 := Lib.hid s2))
  have hS : Hid (LawSt w w3 vl vg vs (nFo l) g s w1.heap.size w2.heap.size w3.heap.size) := Lib.hid (by
    have hb := hb1.out.trans ((g2.out.trans (s2.out.mono g2.out.size)).mono hb1.out.size)
    exact ⟨(hl1.out.below g2.out).below (s2.out.mono g2.out.size), g1.out.below s2.out, s1.out, Nat.le_trans g2.out.size s2.out.size, s2.out.size, Nat.le_refl _, tabs_below hT.out hb, hM.out.below hb, hb⟩)
  clear hb1 hl1 g1 g2 s1 s2 hIn
  obtain ⟨bl, hbl⟩ : ∃ b, stableB (nFo l) = b := ⟨_, rfl⟩
  obtain ⟨bg, hbg⟩ : ∃ b, stableB g = b := ⟨_, rfl⟩
  obtain ⟨bs, hbs⟩ : ∃ b, stableB s = b := ⟨_, rfl⟩
  replace hbl := Lib.hid hbl
  replace hbg := Lib.hid hbg
  replace hbs := Lib.hid hbs
  have S14 : Hid (∀ W, LawSt w W vl vg vs (nFo l) g s w1.heap.size w2.heap.size w3.heap.size → Calls Tryd.prog 14 #[vl] W (IsB bl W) ∧ Calls Tryd.prog 14 #[vg] W (IsB bg W) ∧ Calls Tryd.prog 14 #[vs] W (IsB bs W)) := Lib.hid (fun W h =>
    ⟨hbl.out ▸ st14 h.rl h.hl h.tabs h.max, hbg.out ▸ st14 h.rg h.hg h.tabs h.max, hbs.out ▸ st14 h.rs h.hs h.tabs h.max⟩)
  have S15 : Hid (∀ W, LawSt w W vl vg vs (nFo l) g s w1.heap.size w2.heap.size w3.heap.size → Calls Tryd.prog 15 #[vl] W (IsB bl W) ∧ Calls Tryd.prog 15 #[vg] W (IsB bg W) ∧ Calls Tryd.prog 15 #[vs] W (IsB bs W)) := Lib.hid (fun W h =>
    ⟨hbl.out ▸ st15 h.rl h.hl, hbg.out ▸ st15 h.rg h.hg, hbs.out ▸ st15 h.rs h.hs⟩)
  go_wp2_with (first
    | (go_at_call 14; ((with_reducible refine ((S14.out _ hS.out).1).mono ?_); rintro e w5 ⟨rfl, hB5⟩; have hS := Lib.hid (hS.out.step hB5); clear hB5))
    | (go_at_call 14; ((with_reducible refine ((S14.out _ hS.out).2.1).mono ?_); rintro e w5 ⟨rfl, hB5⟩; have hS := Lib.hid (hS.out.step hB5); clear hB5))
    | (go_at_call 14; ((with_reducible refine ((S14.out _ hS.out).2.2).mono ?_); rintro e w5 ⟨rfl, hB5⟩; have hS := Lib.hid (hS.out.step hB5); clear hB5))
    | (go_at_call 15; ((with_reducible refine ((S15.out _ hS.out).1).mono ?_); rintro e w5 ⟨rfl, hB5⟩; have hS := Lib.hid (hS.out.step hB5); clear hB5))
    | (go_at_call 15; ((with_reducible refine ((S15.out _ hS.out).2.1).mono ?_); rintro e w5 ⟨rfl, hB5⟩; have hS := Lib.hid (hS.out.step hB5); clear hB5))
    | (go_at_call 15; ((with_reducible refine ((S15.out _ hS.out).2.2).mono ?_); rintro e w5 ⟨rfl, hB5⟩; have hS := Lib.hid (hS.out.step hB5); clear hB5))
    | (go_at_call 16; refine (lives_any _).mono ?_; rintro e w6 ⟨rfl, hB6⟩))
  go_ret
  exact ⟨rfl, hS.out.below.trans (hB6.mono hS.out.below.size)⟩
end Go.Proofs.YtghlodpbbghcoaaDoor
