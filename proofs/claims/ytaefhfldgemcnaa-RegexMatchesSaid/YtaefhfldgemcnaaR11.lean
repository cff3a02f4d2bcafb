/- Walks over expressions, eleventh part: the nets of rows, choices and repeats. -/
import Derived.Test.YtaefhfldgemcnaaR10
namespace Go.Proofs.Ytaefhfldgemcnaa
open Go.RowKit

theorem chain_step {l : List T} {i : Nat} {t : T} (a b st : Nat) (ht : l[i]? = some t) (hi : i + 1 < l.length) : chain (l.drop i) a b st = ⟨t, a, st⟩ :: chain (l.drop (i + 1)) st b (st + 1) := by
  obtain ⟨h1, h2⟩ := List.getElem?_eq_some_iff.1 ht
  rw [List.drop_eq_getElem_cons h1, h2]
  obtain ⟨u, l', hl⟩ : ∃ u l', l.drop (i + 1) = u :: l' := by
    cases hd : l.drop (i + 1) with
    | nil => have := congrArg List.length hd; simp at this; omega
    | cons u l' => exact ⟨u, l', rfl⟩
  rw [hl]
  rfl
theorem chain_last {l : List T} {i : Nat} {t : T} (a b st : Nat) (ht : l[i]? = some t) (hi : i + 1 = l.length) : chain (l.drop i) a b st = [⟨t, a, b⟩] := by
  obtain ⟨h1, h2⟩ := List.getElem?_eq_some_iff.1 ht
  rw [List.drop_eq_getElem_cons h1, h2, List.drop_of_length_le (by omega)]
  rfl
theorem PartsAt.get {w : World} {P : Nat → Prop} {vs : List Value} {l : List T} (h : PartsAt w P vs l) {i : Nat} (hi : i < vs.length) :
    ∃ ty u t, Hid (vs[i]? = some (.iface ty u)) ∧ Hid (l[i]? = some t) ∧ Hid (PartAt w P (.iface ty u) t) := by
  have h1 : vs[i]? = some vs[i] := List.getElem?_eq_getElem hi
  have hi2 : i < l.length := by rw [← h.1]; exact hi
  have h2 : l[i]? = some l[i] := List.getElem?_eq_getElem hi2
  have h3 := h.2 i _ _ h1 h2
  obtain ⟨ty, u, hv⟩ := h3.form
  rw [hv] at h1 h3
  exact ⟨ty, u, _, h1, h2, h3⟩

set_option maxRecDepth 8192 in
set_option maxHeartbeats 3200000 in
theorem altNet_any (N b st a c n cap : Nat) (A : Option Addr) (vs : List Value) (l : List T) (es : List Edge) (jvs : List JV) (w : World) (hn : vs.length = n) (hc : CellsIn w (· < N) A vs) (hp : PartsAt w (· < N) vs l) (hN : N ≤ b) (h : MkAt w b st es jvs)
    (hjs : jvs.length ≤ 900000) (hn1 : n ≤ 1000) :
    Calls Try.prog 110 #[.agg #[.slice A n cap], .pointer (some ⟨b, 0, none⟩), .int .i64 a, .int .i64 c] w (NetPost N b (jobNet st (.alt l) a c) es jvs w) := by
  have hlb := h.lt
  have H := Lib.hid (h.alloc (.cells #[.slice A n cap] 119))
  have Hb : Hid (Below b w (w.alloc (.cells #[.slice A n cap] 119))) := (Below.refl _ _).alloc (by omega) _
  have Hc := Lib.hid hc
  have Hp := Lib.hid hp
  have Hn := Lib.hid hn
  clear h hc hp
  go_enter Try.func110, Try.ntmps110
  go_wp2_with fail
  generalize w.alloc _ = W at H Hb ⊢
  go_loopw [13] (fun x wr => ∃ (i : Nat) (jn : List JV), x = .int .i64 i ∧ i ≤ n ∧ jn.length = i ∧ Hid (JobsOk w N jn ((l.take i).map (fun t => ⟨t, a, c⟩))) ∧ Hid (MkAt wr b st es (jvs ++ jn)) ∧ Hid (Below b w wr)) (fun x _ => n - (intOf x).toNat)
  case atStart => exact ⟨0, [], rfl, Nat.zero_le _, rfl, JobsOk.nil _ _, by rw [List.append_nil]; exact H, Hb⟩
  case round =>
    clear H Hb
    obtain ⟨i, jn, rfl, hi, hjl, hjo, hmk, hb⟩ := hrel
    by_cases hlt : i < n
    · have hlti : (i : Int) < (n : Int) := by omega
      obtain ⟨ty, u, t, hv, ht, hpt⟩ := Hp.out.get (i := i) (by omega)
      obtain ⟨g, o, rfl, hg, hcell⟩ := (Hc.out.move (below_moves hb.out hN)).at_ hv.out
      have hjo2 : Hid (JobsOk w N (jn ++ [⟨.iface ty u, a, c⟩]) ((l.take (i + 1)).map (fun t => ⟨t, a, c⟩))) := by
        show JobsOk _ _ _ _
        rw [take_snoc ht.out, List.map_append]
        exact hjo.out.append (JobsOk.one a c hpt.out)
      have HM := Lib.hid (mkPart_any b st a c ty u es (jvs ++ jn) wr hmk.out (by rw [List.length_append]; omega))
      clear hjo hmk hv ht hpt
      go_wp2_with fail
      refine HM.out.mono ?_
      rintro e w2 ⟨rfl, hmk2, hb2, hkt2⟩
      have Hmk2 := Lib.hid hmk2
      have Hb2 := Lib.hid (hb.out.trans hb2)
      clear hmk2 hb2 hkt2 hb HM
      go_wp2_with fail
      go_roundw
      case rel => exact ⟨i + 1, jn ++ [⟨.iface ty u, a, c⟩], by go_num, by omega, by simp; omega, hjo2, by rw [← List.append_assoc]; exact Hmk2, Hb2⟩
      case measure => simp [intOf]; omega
    · have hlti : ¬ (i : Int) < (n : Int) := by omega
      go_wp2_with fail
      refine bodyPost_end (results_none rfl _ _ _) rfl ?_
      refine ⟨rfl, ⟨jn, ?_, ?_⟩, hb.out⟩
      · show MkAt _ _ _ (es ++ []) _
        rw [List.append_nil]
        exact hmk.out
      · have := hjo.out
        rwa [List.take_of_length_le (by rw [← Hp.out.1, Hn.out]; omega)] at this

set_option maxRecDepth 8192 in
set_option maxHeartbeats 3200000 in
theorem seqNet_any (N b st a c n cap : Nat) (A : Option Addr) (vs : List Value) (l : List T) (es : List Edge) (jvs : List JV) (w : World) (hn : vs.length = n) (hcap : n ≤ cap) (hc : CellsIn w (· < N) A vs) (hp : PartsAt w (· < N) vs l) (hN : N ≤ b) (h : MkAt w b st es jvs)
    (hjs : jvs.length ≤ 900000) (hes : es.length ≤ 900000) (hst : st ≤ 900000) (hn1 : n ≤ 1000) :
    Calls Try.prog 109 #[.agg #[.slice A n cap], .pointer (some ⟨b, 0, none⟩), .int .i64 a, .int .i64 c] w (NetPost N b (jobNet st (.seq l) a c) es jvs w) := by
  have hlb := h.lt
  have H := Lib.hid (h.alloc (.cells #[.slice A n cap] 118))
  have Hb : Hid (Below (w.heap.size + 1) (w.alloc (.cells #[.slice A n cap] 118)) (w.alloc (.cells #[.slice A n cap] 118))) := Below.refl _ _
  have Hb0 : Hid (Below b w (w.alloc (.cells #[.slice A n cap] 118))) := (Below.refl _ _).alloc (by omega) _
  have Hc := Lib.hid hc
  have Hp := Lib.hid hp
  have Hn := Lib.hid hn
  clear h hc hp hn Hb
  rcases Nat.eq_zero_or_pos n with h0 | h0
  · subst h0
    obtain rfl : l = [] := List.eq_nil_of_length_eq_zero (by rw [← Hp.out.1, Hn.out])
    have HM := Lib.hid (mkNone_any b st a c es jvs _ H.out (by omega))
    go_enter Try.func109, Try.ntmps109
    go_wp2_with fail
    refine HM.out.mono ?_
    rintro e w2 ⟨rfl, hmk2, hb2, hkt2⟩
    have Hmk2 := Lib.hid hmk2
    have Hb2 := Lib.hid (Hb0.out.trans hb2)
    clear hmk2 hb2
    go_wp2_with fail
    go_returns
    exact ⟨rfl, ⟨[], by rw [List.append_nil]; exact Hmk2.out, JobsOk.nil _ _⟩, Hb2.out⟩
  · obtain ⟨k, rfl⟩ : ∃ k, n = k + 1 := ⟨n - 1, by omega⟩
    have hne : ((k : Int) + 1 == 0) = false := beq_eq_false_iff_ne.2 (by omega)
    have hll : l.length = k + 1 := by rw [← Hp.out.1, Hn.out]
    have hjob : Hid (jobNet st (.seq l) a c = ⟨st + k, [], chain l a c st⟩) := by
      show _ = _
      cases l with
      | nil => simp at hll
      | cons t l => simp only [List.length_cons] at hll; simp [jobNet]; omega
    have Hg : Hid ((w.alloc (.cells #[.slice A (k + 1) cap] 118)).heap[w.heap.size]? = some (.cells #[.slice A (k + 1) cap] 118 (0, 0))) := blk_new _ _
    have Hll := Lib.hid hll
    clear hll
    go_enter Try.func109, Try.ntmps109
    go_wp2_with fail
    generalize w.alloc _ = W at H Hb0 Hg ⊢
    go_loopw [2, 29] (fun fr x wr => ∃ (i f : Nat) (jn : List JV) (dn : List Job), x = .int .i64 i ∧ i ≤ k ∧ fr = .int .i64 f ∧ jn.length = i ∧ Hid (JobsOk w N jn dn) ∧ Hid (chain l a c st = dn ++ chain (l.drop i) f c (st + i)) ∧ Hid (MkAt wr b (st + i) es (jvs ++ jn)) ∧ Hid (Below b w wr) ∧
        Hid (wr.heap[w.heap.size]? = some (.cells #[.slice A (k + 1) cap] 118 (0, 0)))) (fun _ x _ => k - (intOf x).toNat)
    case atStart => exact ⟨0, a, [], [], rfl, Nat.zero_le _, rfl, rfl, JobsOk.nil _ _, rfl, by rw [List.append_nil]; exact H, Hb0, Hg⟩
    case round =>
      clear H Hb0 Hg
      obtain ⟨i, f, jn, dn, rfl, hi, rfl, hjl, hjo, hch, hmk, hb, hg⟩ := hrel
      obtain ⟨ty, u, t, hv, ht, hpt⟩ := Hp.out.get (i := i) (by rw [Hn.out]; omega)
      obtain ⟨g, o, rfl, hgN, hcell⟩ := (Hc.out.move (below_moves hb.out hN)).at_ hv.out
      by_cases hlt : i < k
      · have hlti : (i : Int) < (k : Int) := by omega
        have hch2 : Hid (chain l a c st = (dn ++ [⟨t, f, st + i⟩]) ++ chain (l.drop (i + 1)) (st + i) c (st + (i + 1))) := by
          show _ = _
          rw [hch.out, chain_step f c (st + i) ht.out (by rw [Hll.out]; omega), List.append_assoc]
          rfl
        have hjo2 : Hid (JobsOk w N (jn ++ [⟨.iface ty u, f, st + i⟩]) (dn ++ [⟨t, f, st + i⟩])) := hjo.out.append (JobsOk.one f (st + i) hpt.out)
        have HS := Lib.hid (mkState_any b (st + i) es (jvs ++ jn) wr hmk.out (by omega))
        have HM := Lib.hid (fun (w2 : World) (h2 : MkAt w2 b (st + i + 1) es (jvs ++ jn)) => mkPart_any b (st + i + 1) f (st + i) ty u es (jvs ++ jn) w2 h2 (by rw [List.length_append]; omega))
        have hcast : Hid (((st + i : Nat) : Int) = (st : Int) + (i : Int)) := by show _ = _; omega
        clear hjo hch hmk hv ht hpt
        go_wp2_with fail
        refine HS.out.mono ?_
        rintro e w2 ⟨rfl, hmk2, hb2, hkt2⟩
        have Hmk2 := Lib.hid hmk2
        have Hb2 := Lib.hid (hb.out.trans hb2)
        have Hg2 := Lib.hid (hkt2 _ _ _ hg.out (by decide) (by decide) (by decide))
        clear hmk2 hb2 hkt2 hb hg HS
        go_wp2_with fail
        refine (HM.out w2 Hmk2.out).mono ?_
        rintro e w3 ⟨rfl, hmk3, hb3, hkt3⟩
        have Hmk3 := Lib.hid hmk3
        have Hb3 := Lib.hid (Hb2.out.trans hb3)
        have Hg3 := Lib.hid (hkt3 _ _ _ Hg2.out (by decide) (by decide) (by decide))
        clear hmk3 hb3 hkt3 Hb2 Hg2 HM Hmk2
        go_wp2_with fail
        go_roundw
        case rel => exact ⟨i + 1, st + i, jn ++ [⟨.iface ty u, f, st + i⟩], dn ++ [⟨t, f, st + i⟩], by go_num, by omega, by go_num, by simp; omega, hjo2, hch2, by rw [← List.append_assoc]; exact Hmk3, Hb3, Hg3⟩
        case measure => simp [intOf]; omega
      · obtain rfl : i = k := by omega
        have hlti : ¬ (i : Int) < (i : Int) := by omega
        have hch2 : Hid (chain l a c st = dn ++ [⟨t, f, c⟩]) := by
          show _ = _
          rw [hch.out, chain_last f c (st + i) ht.out (by rw [Hll.out])]
        have hjo2 : Hid (JobsOk w N (jn ++ [⟨.iface ty u, f, c⟩]) (dn ++ [⟨t, f, c⟩])) := hjo.out.append (JobsOk.one f c hpt.out)
        have HM := Lib.hid (mkPart_any b (st + i) f c ty u es (jvs ++ jn) wr hmk.out (by rw [List.length_append]; omega))
        have q0 : wr.cell? ⟨w.heap.size, 0, none⟩ = some (.slice (some ⟨g, o, none⟩) (i + 1) cap) := blk_cell hg.out 0
        clear hjo hch hmk hv ht hpt
        go_wp2_with fail
        refine HM.out.mono ?_
        rintro e w2 ⟨rfl, hmk2, hb2, hkt2⟩
        have Hmk2 := Lib.hid hmk2
        have Hb2 := Lib.hid (hb.out.trans hb2)
        clear hmk2 hb2 hkt2 hb HM q0
        go_wp2_with fail
        go_returns
        refine ⟨rfl, ⟨jn ++ [⟨.iface ty u, f, c⟩], ?_, ?_⟩, Hb2.out⟩
        · rw [hjob.out]
          show MkAt _ _ _ (es ++ []) _
          rw [List.append_nil, ← List.append_assoc]
          exact Hmk2.out
        · rw [hjob.out]
          show JobsOk _ _ _ (chain l a c st)
          rw [hch2.out]
          exact hjo2.out

set_option maxRecDepth 8192 in
set_option maxHeartbeats 3200000 in
theorem repNet_any (N b st a c : Nat) (ty : TypeId) (u : Value) (p : T) (op : UInt8) (es : List Edge) (jvs : List JV) (w : World) (hp : PartAt w (· < N) (.iface ty u) p) (hN : N ≤ b) (h : MkAt w b st es jvs)
    (hjs : jvs.length ≤ 900000) (hes : es.length ≤ 900000) (hst : st ≤ 900000) :
    Calls Try.prog 105 #[.agg #[.iface ty u, .int .u8 op.toNat], .pointer (some ⟨b, 0, none⟩), .int .i64 a, .int .i64 c] w (NetPost N b (jobNet st (.rep p op) a c) es jvs w) := by
  have hlb := h.lt
  have H := Lib.hid (h.alloc (.cells #[.iface ty u, .int .u8 op.toNat] 92))
  have Hb0 : Hid (Below b w (w.alloc (.cells #[.iface ty u, .int .u8 op.toNat] 92))) := (Below.refl _ _).alloc (by omega) _
  have Hg : Hid ((w.alloc (.cells #[.iface ty u, .int .u8 op.toNat] 92)).heap[w.heap.size]? = some (.cells #[.iface ty u, .int .u8 op.toNat] 92 (0, 0))) := blk_new _ _
  have Hp := Lib.hid hp
  obtain ⟨q, hq⟩ : ∃ q : Nat, op.toNat = q := ⟨_, rfl⟩
  have hjn : Hid (jobNet st (.rep p op) a c = if q = 63 then ⟨st, [eps a c], [⟨p, a, c⟩]⟩ else if q = 42 then ⟨st + 1, [eps a st, eps st c], [⟨p, st, st⟩]⟩ else ⟨st + 2, [eps a st, eps (st + 1) st, eps (st + 1) c], [⟨p, st, st + 1⟩]⟩) := by
    show _ = _
    rw [← hq]
    rfl
  rw [hq] at H Hb0 Hg ⊢
  clear h hp hq
  by_cases h1 : q = 63
  · subst h1
    rw [hjn.out, if_pos rfl]
    go_enter Try.func105, Try.ntmps105
    go_wp2_with fail
    generalize w.alloc _ = W at H Hb0 Hg ⊢
    refine (mkNone_any b st a c es jvs W H.out (by omega)).mono ?_
    rintro e w2 ⟨rfl, hmk2, hb2, hkt2⟩
    have Hmk2 := Lib.hid hmk2
    have Hb2 := Lib.hid (Hb0.out.trans hb2)
    have hg2 := hkt2 _ _ _ Hg.out (by decide) (by decide) (by decide)
    have q0 : w2.cell? ⟨w.heap.size, 0, none⟩ = some (.iface ty u) := blk_cell hg2 0
    clear hmk2 hb2 hkt2 hg2 Hg Hb0 H
    go_wp2_with fail
    refine (mkPart_any b st a c ty u _ jvs w2 Hmk2.out (by omega)).mono ?_
    rintro e w3 ⟨rfl, hmk3, hb3, hkt3⟩
    have Hmk3 := Lib.hid hmk3
    have Hb3 := Lib.hid (Hb2.out.trans hb3)
    clear hmk3 hb3 hkt3 Hb2 q0
    go_wp2_with fail
    go_returns
    exact ⟨rfl, ⟨_, Hmk3.out, JobsOk.one a c Hp.out⟩, Hb3.out⟩
  · have hd1 : ((q : Int) == 63) = false := beq_eq_false_iff_ne.2 (by omega)
    by_cases h2 : q = 42
    · subst h2
      rw [hjn.out, if_neg (by decide), if_pos rfl]
      go_enter Try.func105, Try.ntmps105
      go_wp2_with fail
      generalize w.alloc _ = W at H Hb0 Hg ⊢
      refine (mkState_any b st es jvs W H.out (by omega)).mono ?_
      rintro e w2 ⟨rfl, hmk2, hb2, hkt2⟩
      have Hmk2 := Lib.hid hmk2
      have Hb2 := Lib.hid (Hb0.out.trans hb2)
      have Hg2 := Lib.hid (hkt2 _ _ _ Hg.out (by decide) (by decide) (by decide))
      clear hmk2 hb2 hkt2 Hg Hb0 H
      go_wp2_with fail
      refine (mkNone_any b (st + 1) a st es jvs w2 Hmk2.out (by omega)).mono ?_
      rintro e w3 ⟨rfl, hmk3, hb3, hkt3⟩
      have Hmk3 := Lib.hid hmk3
      have Hb3 := Lib.hid (Hb2.out.trans hb3)
      have hg3 := hkt3 _ _ _ Hg2.out (by decide) (by decide) (by decide)
      have q0 : w3.cell? ⟨w.heap.size, 0, none⟩ = some (.iface ty u) := blk_cell hg3 0
      clear hmk3 hb3 hkt3 Hg2 Hb2 Hmk2 hg3
      go_wp2_with fail
      refine (mkPart_any b (st + 1) st st ty u _ jvs w3 Hmk3.out (by omega)).mono ?_
      rintro e w4 ⟨rfl, hmk4, hb4, hkt4⟩
      have Hmk4 := Lib.hid hmk4
      have Hb4 := Lib.hid (Hb3.out.trans hb4)
      clear hmk4 hb4 hkt4 Hb3 Hmk3 q0
      go_wp2_with fail
      refine (mkNone_any b (st + 1) st c _ _ w4 Hmk4.out (by simp; omega)).mono ?_
      rintro e w5 ⟨rfl, hmk5, hb5, hkt5⟩
      have Hmk5 := Lib.hid hmk5
      have Hb5 := Lib.hid (Hb4.out.trans hb5)
      clear hmk5 hb5 hkt5 Hb4 Hmk4
      go_wp2_with fail
      go_returns
      refine ⟨rfl, ⟨_, ?_, JobsOk.one st st Hp.out⟩, Hb5.out⟩
      have := Hmk5.out
      rwa [List.append_assoc] at this
    · have hd2 : ((q : Int) == 42) = false := beq_eq_false_iff_ne.2 (by omega)
      rw [hjn.out, if_neg h1, if_neg h2]
      go_enter Try.func105, Try.ntmps105
      go_wp2_with fail
      generalize w.alloc _ = W at H Hb0 Hg ⊢
      refine (mkState_any b st es jvs W H.out (by omega)).mono ?_
      rintro e w2 ⟨rfl, hmk2, hb2, hkt2⟩
      have Hmk2 := Lib.hid hmk2
      have Hb2 := Lib.hid (Hb0.out.trans hb2)
      have Hg2 := Lib.hid (hkt2 _ _ _ Hg.out (by decide) (by decide) (by decide))
      clear hmk2 hb2 hkt2 Hg Hb0 H
      go_wp2_with fail
      refine (mkState_any b (st + 1) es jvs w2 Hmk2.out (by omega)).mono ?_
      rintro e w2' ⟨rfl, hmk2', hb2', hkt2'⟩
      have Hmk2' := Lib.hid hmk2'
      have Hb2' := Lib.hid (Hb2.out.trans hb2')
      have Hg2' := Lib.hid (hkt2' _ _ _ Hg2.out (by decide) (by decide) (by decide))
      clear hmk2' hb2' hkt2' Hg2 Hb2 Hmk2
      go_wp2_with fail
      refine (mkNone_any b (st + 1 + 1) a st es jvs w2' Hmk2'.out (by omega)).mono ?_
      rintro e w3 ⟨rfl, hmk3, hb3, hkt3⟩
      have Hmk3 := Lib.hid hmk3
      have Hb3 := Lib.hid (Hb2'.out.trans hb3)
      have hg3 := hkt3 _ _ _ Hg2'.out (by decide) (by decide) (by decide)
      have q0 : w3.cell? ⟨w.heap.size, 0, none⟩ = some (.iface ty u) := blk_cell hg3 0
      have HP : Hid (∀ (x : Nat) (_ : x = st + 1), Calls Try.prog 64 #[.pointer (some ⟨b, 0, none⟩), .iface ty u, .int .i64 st, .int .i64 ((st : Int) + 1)] w3 (MkPost b (st + 1 + 1) (es ++ [eps a st]) (jvs ++ [⟨.iface ty u, st, st + 1⟩]) w3)) := fun x hx => by
        have := mkPart_any b (st + 1 + 1) st (st + 1) ty u _ jvs w3 Hmk3.out (by omega)
        simpa using this
      clear hmk3 hb3 hkt3 Hg2' Hb2' Hmk2' hg3
      go_wp2_with fail
      refine (HP.out _ rfl).mono ?_
      rintro e w4 ⟨rfl, hmk4, hb4, hkt4⟩
      have Hmk4 := Lib.hid hmk4
      have Hb4 := Lib.hid (Hb3.out.trans hb4)
      have HQ : Hid (Calls Try.prog 106 #[.pointer (some ⟨b, 0, none⟩), .int .i64 ((st : Int) + 1), .int .i64 st] w4 (MkPost b (st + 1 + 1) (es ++ [eps a st] ++ [eps (st + 1) st]) (jvs ++ [⟨.iface ty u, st, st + 1⟩]) w4)) := by
        have := mkNone_any b (st + 1 + 1) (st + 1) st _ _ w4 Hmk4.out (by simp; omega)
        show Calls _ _ _ _ _
        simpa using this
      clear hmk4 hb4 hkt4 Hb3 Hmk3 q0 HP
      go_wp2_with fail
      refine HQ.out.mono ?_
      rintro e w5 ⟨rfl, hmk5, hb5, hkt5⟩
      have Hmk5 := Lib.hid hmk5
      have Hb5 := Lib.hid (Hb4.out.trans hb5)
      have HQ2 : Hid (Calls Try.prog 106 #[.pointer (some ⟨b, 0, none⟩), .int .i64 ((st : Int) + 1), .int .i64 c] w5 (MkPost b (st + 1 + 1) (es ++ [eps a st] ++ [eps (st + 1) st] ++ [eps (st + 1) c]) (jvs ++ [⟨.iface ty u, st, st + 1⟩]) w5)) := by
        have := mkNone_any b (st + 1 + 1) (st + 1) c _ _ w5 Hmk5.out (by simp; omega)
        show Calls _ _ _ _ _
        simpa using this
      clear hmk5 hb5 hkt5 Hb4 Hmk4 HQ
      go_wp2_with fail
      refine HQ2.out.mono ?_
      rintro e w6 ⟨rfl, hmk6, hb6, hkt6⟩
      have Hmk6 := Lib.hid hmk6
      have Hb6 := Lib.hid (Hb5.out.trans hb6)
      clear hmk6 hb6 hkt6 Hb5 Hmk5 HQ2
      go_wp2_with fail
      go_returns
      refine ⟨rfl, ⟨_, ?_, JobsOk.one st (st + 1) Hp.out⟩, Hb6.out⟩
      have := Hmk6.out
      simpa using this
end Go.Proofs.Ytaefhfldgemcnaa
