/- Walks over expressions, eighth part: expressions, and the parser. -/
import Derived.Test.YtaefhfldgemcnaaR7
namespace Go.Proofs.Ytaefhfldgemcnaa
open Go.RowKit

set_option maxHeartbeats 6400000 in
theorem expr_any (s : ByteArray) (k0 : Nat) (hs : s.size ≤ 1000) (IH : ∀ k, k0 ≤ k → BranchOk s k) : ExprOk s k0 := by
  intro b f0 w hr hk0 hf0
  have hlb : b < w.heap.size := blk_lt hr.blk
  have Hr := Lib.hid hr
  obtain ⟨res, hres⟩ : ∃ res, res = exprF s f0 [] k0 := ⟨_, rfl⟩
  rw [← hres]
  have Hres := Lib.hid hres
  have HIH := Lib.hid IH
  clear hres hr IH
  go_enter Try.func53, Try.ntmps53
  go_wp2_with fail
  go_loopw [4] (fun l wr => ∃ (f K : Nat) (vs : List Value) (acc : List T), Hid (res = exprF s f acc K) ∧ 3 * (s.size - K) + 3 ≤ f ∧ k0 ≤ K ∧ K ≤ s.size ∧ vs.length ≤ K ∧ Hid (RdAt wr b s K) ∧ Hid (Keep b w wr) ∧
      Hid (wr.ownsRow w.heap.size 76 1 l vs.length vs) ∧ Hid (PartsAt wr (Beside w wr l) vs acc)) (fun _ wr => s.size - rdK wr b)
  case atStart => exact ⟨f0, k0, [], [], Hres, hf0, Nat.le_refl _, hk0, Nat.zero_le _, Hr, Keep.refl b w, World.ownsRow_nil _ _ _ _, PartsAt.nil _ _⟩
  case round =>
    obtain ⟨f, K, vs, acc, htot, hf, hkK, hK, hvs, hR, hKp, hown, hparts⟩ := hrel
    obtain ⟨A, c, rfl, hown'⟩ := own_form hown.out
    have Hown := Lib.hid hown'
    clear hown hown'
    have hrk := Lib.hid hR.out.rdK
    have hwW := hKp.out.size
    obtain ⟨f', rfl⟩ : ∃ f', f = f' + 1 := ⟨f - 1, by omega⟩
    have hst := htot.out
    rw [exprF] at hst
    have HB := Lib.hid (HIH.out K hkK b f' wr hR.out hK (by omega))
    cases hb : branchF s f' [] K with
    | none =>
      rw [hb] at hst
      subst hst
      go_wp2_with fail
      refine (part_none HB.out hb).mono ?_
      rintro e w2 ⟨rfl, k2, hk2, hR2, hK2⟩
      go_wp2_with fail
      go_ret2
      exact ⟨⟨rfl, k2, hk2, hR2.out⟩, hKp.out.trans hK2.out⟩
    | some q =>
      obtain ⟨p, k1⟩ := q
      rw [hb] at hst
      have Hst : Hid (res = if atL s k1 [124] then exprF s f' (acc ++ [p]) (k1 + 1) else some (eitherT (acc ++ [p]), k1)) := hst
      have hpf := (pfacts s f').b [] K p k1 hK hb
      have hk1 := hpf.1
      have hk1s := hpf.2.1
      clear hst htot hpf
      go_wp2_with fail
      refine (part_some HB.out hb).mono ?_
      rintro e w1 ⟨v, rfl, hP1, hR1, hK1⟩
      have ho1 := Lib.hid (own_keep Hown.out hK1.out hlb)
      have hp1 := Lib.hid (hparts.out.move (Beside.keep hlb hK1.out))
      have hf1 : Hid (PartAt w1 (Beside w w1 (.slice A vs.length c)) v p) := hP1.out.move (Beside.fresh hwW Hown.out)
      have hK1w := Lib.hid (hKp.out.trans hK1.out)
      obtain ⟨ty, x, rfl⟩ := hf1.out.form
      have hzz := hK1w.out.size
      have hps := Lib.hid (PartsAt.snoc hp1.out hf1.out)
      clear hP1 hK1 Hown hparts hKp hR HB hb
      go_upto_region 5 with fail
      go_wp2_with (at_builtin; refine wpList_append_new_at info76 Try.underlying93 rfl (by decide) (by decide) _ ho1.out 1 rfl _ _ rfl rfl rfl (by simp) rfl rfl (by omega) hzz ?_; intro v' w' hown' hbel hgt hgrow hnew)
      have hR9 := Lib.hid (hR1.out.below hbel hlb)
      have hK9 := Lib.hid (hK1w.out.own hbel)
      have hp9 : Hid (PartsAt w' (Beside w w' v') (vs ++ [Value.iface ty x]) (acc ++ [p])) := hps.out.move (Beside.grown hgrow (by omega) hnew)
      have ho9 : Hid (w'.ownsRow w.heap.size 76 1 v' (vs ++ [Value.iface ty x]).length (vs ++ [Value.iface ty x])) := by
        show World.ownsRow _ _ _ _ _ _ _
        rw [List.length_append]
        exact hown'
      have hlen : (vs ++ [Value.iface ty x]).length = vs.length + 1 := by simp
      clear hown' hbel hgrow hnew hps ho1 hp1 hf1 hK1w hR1
      refine (at_any b s _ k1 w' hR9.out).mono ?_
      rintro e w3 ⟨rfl, n3, rfl⟩
      rw [show (ByteArray.mk #[124]).data.toList = [124] from rfl]
      cases ha : atL s k1 [124] with
      | true =>
        have hl := atL_lt ha
        have hres := Hst.out
        rw [ha, if_pos rfl] at hres
        have Hres2 := Lib.hid hres
        clear hres ha
        have c1 : w'.cell? ⟨b, 1, none⟩ = some (.int .i64 k1) := blk_cell hR9.out.blk 1
        have cf : w'.frozen? ⟨b, 1, none⟩ = false := blk_frozen hR9.out.blk 1
        have hk9 : Keep b w' ((w'.drewN n3).setCell ⟨b, 1, none⟩ (.int .i64 ((k1 : Int) + 1))) := ((Keep.refl b w').drewN n3).set 1 _
        have Hk9 := Lib.hid hk9
        clear hk9
        go_wp2_with fail
        go_roundw
        case rel =>
          exact ⟨f', k1 + 1, vs ++ [Value.iface ty x], acc ++ [p], Hres2, by omega, by omega, hl, by omega, (hR9.out.drewN n3).next, hK9.out.trans Hk9.out, own_keep ho9.out Hk9.out hlb, hp9.out.move (Beside.keep hlb Hk9.out)⟩
        case measure => rw [hrk.out, ((hR9.out.drewN n3).next).rdK]; omega
      | false =>
        have hres := Hst.out
        rw [ha, if_neg (by decide)] at hres
        have ho9' := ho9.out
        obtain ⟨n', hn'⟩ : ∃ n', (vs ++ [Value.iface ty x]).length = n' := ⟨_, rfl⟩
        rw [hn'] at ho9'
        have Hn' := Lib.hid hn'
        clear hn' hlen ho9
        obtain ⟨A', c', rfl, ho10⟩ := own_form ho9'
        have HE := Lib.hid (either_any (Fresh w w') (vs ++ [Value.iface ty x]) (acc ++ [p]) A' n' c' (w'.drewN n3) Hn'.out (own_cap ho10) ((cells_own ho10).move (w' := w'.drewN n3) (fun _ h => ⟨h, rfl⟩)) ((hp9.out.move Beside.out).move (w' := w'.drewN n3) (fun _ h => ⟨h, rfl⟩)))
        clear ho10 ha ho9'
        go_wp2_with fail
        refine HE.out.mono ?_
        rintro e w2 ⟨⟨v, rfl, hv⟩, rfl⟩
        have Hv := Lib.hid hv
        clear hv
        subst hres
        go_wp2_with fail
        go_ret2
        exact ⟨⟨⟨_, rfl, Hv.out⟩, hR9.out.drewN _⟩, hK9.out.drewN _⟩

theorem expr_ok (s : ByteArray) (hs : s.size ≤ 1000) : ∀ (n k : Nat), s.size ≤ n + k → ExprOk s k := by
  intro n
  induction n with
  | zero =>
    intro k hk
    exact expr_any s k hs (fun j hj => branch_any s j hs (fun i hi => atom_any s i hs (fun h => absurd h (by omega))))
  | succ n ih =>
    intro k hk
    exact expr_any s k hs (fun j hj => branch_any s j hs (fun i hi => atom_any s i hs (fun _ => ih (i + 1) (by omega))))

def parseR (s : ByteArray) : Option T := if 60 < s.size then none else parseF s
def ParseGot (r : Option T) (err : Int) (w : World) (e : Ending) (w' : World) : Prop :=
  match r with
  | some t => ∃ g v, e = .returned (.tuple #[.pointer (some ⟨g, 0, none⟩), .int .i64 0]) ∧ w'.heap[g]? = some (.cells #[v] 80 (0, 0)) ∧ w.heap.size ≤ g ∧ PartAt w' (Fresh w w') v t
  | none => e = .returned (.tuple #[.pointer none, .int .i64 err])
/-- What the parser hands back: a tree, or an error. -/
def ParsePost (s : ByteArray) (w : World) (e : Ending) (w' : World) : Prop :=
  ParseGot (parseR s) (if 60 < s.size then 3 else 2) w e w' ∧ Below w.heap.size w w'

set_option maxHeartbeats 3200000 in
theorem parse_any (s : ByteArray) (w : World) (hs : s.size ≤ 1000) : Calls Try.prog 29 #[.string s] w (ParsePost s w) := by
  obtain ⟨res, hres⟩ : ∃ res, res = parseR s := ⟨_, rfl⟩
  unfold ParsePost
  rw [← hres]
  unfold parseR at hres
  by_cases hlong : 60 < s.size
  · have hl : (60 : Int) < (s.size : Int) := by omega
    rw [if_pos hlong] at hres
    rw [if_pos hlong]
    subst hres
    go_enter Try.func29, Try.ntmps29
    go_wp2_with fail
    go_ret2
    exact ⟨rfl, Below.refl _ _⟩
  · have hl : ¬ (60 : Int) < (s.size : Int) := by omega
    have hR : RdAt (w.alloc (.cells #[.string s, .int .i64 0] 74)) w.heap.size s 0 := ⟨blk_new _ _⟩
    have hE := Lib.hid (expr_ok s hs s.size 0 (by omega) w.heap.size (3 * s.size + 3) _ hR (Nat.zero_le _) (by omega))
    have hb0 : Below w.heap.size w (w.alloc (.cells #[.string s, .int .i64 0] 74)) := (Below.refl _ _).alloc (Nat.le_refl _) _
    have Hb0 := Lib.hid hb0
    rw [if_neg hlong] at hres
    rw [if_neg hlong]
    unfold parseF at hres
    clear hR hb0
    cases he : exprF s (3 * s.size + 3) [] 0 with
    | none =>
      rw [he] at hres
      subst hres
      go_enter Try.func29, Try.ntmps29
      go_wp2_with fail
      refine (part_none hE.out he).mono ?_
      rintro e w2 ⟨rfl, k2, hk2, hR2, hK2⟩
      have hb2 := Lib.hid (Hb0.out.trans (hK2.out.below (by simp)))
      go_wp2_with fail
      go_ret2
      exact ⟨rfl, hb2.out⟩
    | some q =>
      obtain ⟨t, k1⟩ := q
      rw [he] at hres
      have hk1s := ((pfacts s (3 * s.size + 3)).e [] 0 t k1 (Nat.zero_le _) he).2.1
      have Hres : Hid (res = if k1 < s.size then none else some t) := hres
      clear hres
      go_enter Try.func29, Try.ntmps29
      go_wp2_with fail
      refine (part_some hE.out he).mono ?_
      rintro e w2 ⟨v, rfl, hP2, hR2, hK2⟩
      have c1 : w2.cell? ⟨w.heap.size, 1, none⟩ = some (.int .i64 k1) := blk_cell hR2.out.blk 1
      have hb2 := Lib.hid (Hb0.out.trans (hK2.out.below (by simp)))
      have hz2 := hK2.out.size
      obtain ⟨ty, x, rfl⟩ := hP2.out.form
      have hsz := hb2.out.size
      clear hK2 hE he
      by_cases hk : k1 < s.size
      · have hres := Hres.out
        rw [if_pos hk] at hres
        subst hres
        have hki : (k1 : Int) < (s.size : Int) := by omega
        go_wp2_with fail
        go_ret2
        exact ⟨rfl, hb2.out⟩
      · have hres := Hres.out
        rw [if_neg hk] at hres
        subst hres
        have hki : ¬ (k1 : Int) < (s.size : Int) := by omega
        have hP3 : Hid (PartAt (w2.alloc (.cells #[.iface ty x] 80)) (Fresh w (w2.alloc (.cells #[.iface ty x] 80))) (.iface ty x) t) :=
          hP2.out.move (fun g hg => ⟨⟨by have := hg.1; simp at this; omega, by have := hg.2; simp; omega⟩, by first | exact heap_alloc_old w2 _ hg.2 | exact heap_alloc_old w2 _ g hg.2⟩)
        go_wp2_with fail
        go_ret2
        exact ⟨⟨w2.heap.size, _, rfl, blk_new _ _, hsz, hP3.out⟩, hb2.out.alloc hsz _⟩
end Go.Proofs.Ytaefhfldgemcnaa
