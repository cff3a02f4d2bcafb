/- A line's items: walked. -/
import Derived.Test.YtghlodpbbghcoaaGreatDoorZ4
namespace Go.Proofs.YtghlodpbbghcoaaGreatDoor
open Go.RowKit
theorem own_apart {w : World} {B B' e e' size size' n n' : Nat} {v v' : Value} {xs xs' : List Value} (h : w.ownsRow B e size v n xs) (h' : w.ownsRow B' e' size' v' n' xs') (hne : e ≠ e') : v.ownBlock = none ∨ v.ownBlock ≠ v'.ownBlock := by
  rcases h'.2 with ⟨rfl, _⟩ | ⟨g, cap, cur, rfl, _, hg, _⟩
  · cases hv : v.ownBlock with
    | none => exact .inl rfl
    | some x => exact .inr (by simp [Value.ownBlock])
  · exact .inr (own_ne h hg hne)
theorem info9 : (Tryz.prog.info? 9).map (fun i => (i.zero, i.size, i.bytes)) = some (some (.string ⟨#[]⟩), 1, 16) := by kernel_rfl
theorem info4 : (Tryz.prog.info? 4).map (fun i => (i.zero, i.size, i.bytes)) = some (some (.bool false), 1, 1) := by kernel_rfl
def tCells (D : List (List UInt8 × Bool)) : List Value := D.map fun p => .string (tx p.1)
def qCells (D : List (List UInt8 × Bool)) : List Value := D.map fun p => .bool p.2
/-- Items that have been read: their texts, and whether they are quoted, in rows of the call's own. -/
structure ItemsIn (B : Nat) (wr : World) (vt vq : Value) (D : List (List UInt8 × Bool)) : Prop where
  t : wr.ownsRow B 9 1 vt D.length (tCells D)
  q : wr.ownsRow B 4 1 vq D.length (qCells D)
theorem ItemsIn.nil (B : Nat) (w : World) : ItemsIn B w (.slice none 0 0) (.slice none 0 0) [] := ⟨World.ownsRow_nil _ _ _ _, World.ownsRow_nil _ _ _ _⟩
theorem ItemsIn.below {B : Nat} {w w' : World} {vt vq : Value} {D : List (List UInt8 × Bool)} (h : ItemsIn B w vt vq D) (hb : Below w.heap.size w w') : ItemsIn B w' vt vq D := ⟨own_below h.t hb (Nat.le_refl _), own_below h.q hb (Nat.le_refl _)⟩
def strLen : Value → Nat | .string s => s.size | _ => 0
def ItemsPost (r : Option (List (List UInt8 × Bool))) (w : World) (e : Ending) (w' : World) : Prop :=
  (match r with
   | none => e = .returned (.tuple #[.slice none 0 0, .slice none 0 0, .bool false])
   | some D => ∃ vt vq, e = .returned (.tuple #[vt, vq, .bool true]) ∧ ItemsIn w.heap.size w' vt vq D) ∧ Below w.heap.size w w'

set_option maxRecDepth 100000 in
set_option maxHeartbeats 3200000 in
theorem items_any (s : ByteArray) (hs : s.size ≤ 2000000) (w : World) : Calls Tryz.prog 20 #[.string s] w (ItemsPost (itemsG s.data.toList) w) := by
  obtain ⟨r, hr⟩ : ∃ r, itemsG s.data.toList = r := ⟨_, rfl⟩
  rw [hr]
  replace hr := Lib.hid hr
  go_enter Tryz.func20, Tryz.ntmps20
  go_wp2
  go_loopw [0, 5, 6] (fun x0 vt vq wr => ∃ (rest : ByteArray) (D : List (List UInt8 × Bool)), x0 = .string rest ∧ D.length + rest.size ≤ s.size ∧ Hid ((itemsG rest.data.toList).map (fun m => D ++ m) = r) ∧ Hid (ItemsIn w.heap.size wr vt vq D) ∧ Hid (Below w.heap.size w wr)) (fun x0 _ _ _ => strLen x0)
  case atStart => exact ⟨s, [], rfl, by simp, Lib.hid (by rw [← hr.out]; simp), Lib.hid (ItemsIn.nil _ _), Lib.hid (Below.refl _ _)⟩
  case round =>
    obtain ⟨rest, D, rfl, hsz, hres, hin, hB⟩ := hrel
    have hz : rest.data.toList.length = rest.size := by simp
    have hitem := item_any rest (by omega) wr
    obtain ⟨vt, hvt⟩ : ∃ v, v = u5 := ⟨_, rfl⟩
    obtain ⟨vq, hvq⟩ : ∃ v, v = u6 := ⟨_, rfl⟩
    rw [← hvt, ← hvq] at hin ⊢
    clear hvt hvq
    cases hI : itemL rest.data.toList with
    | none =>
      have e : r = none := by rw [← hres.out, itemsG_none hI]; rfl
      rw [hI] at hitem
      subst e
      clear hI hz hres
      go_wp2_with (go_at_call 42; refine hitem.mono ?_; rintro e w5 ⟨he, hB5⟩; obtain ⟨t, q, n, rfl⟩ := he)
      go_ret3
      exact ⟨rfl, hB.out.trans (hB5.mono hB.out.size)⟩
    | some p =>
      obtain ⟨t, q, n⟩ := p
      rw [hI] at hitem
      have hle := itemL_le hI
      rw [hz] at hle
      obtain ⟨hn0, hnl, htl⟩ := hle
      replace hz := Lib.hid hz
      replace hI := Lib.hid hI
      replace htl := Lib.hid htl
      obtain ⟨m, hm⟩ : ∃ m, rest.size = m := ⟨_, rfl⟩
      have hm2 : Hid (rest.size = m) := Lib.hid hm
      have hDm : D.length + m ≤ s.size := by omega
      have hnm : n ≤ m := by omega
      have hi0 : (0 : Int) ≤ (n : Int) := by omega
      clear hsz
      have hwz := Lib.hid hB.out.size
      go_upto_region 7 with (first
        | (go_at_call 42; refine hitem.mono ?_; rintro e w5 ⟨he, hB5⟩; simp only at he; subst he; have hin5 := Lib.hid (hin.out.below hB5); have hB5w := Lib.hid (hB.out.trans (hB5.mono hB.out.size)); have hz5 := hB5w.out.size)
        | (at_builtin; refine wpList_append_new_at info9 Tryz.underlying22 rfl (by decide) (by decide) w.heap.size hin5.out.t 1 rfl _ _ rfl rfl rfl (by simp) rfl rfl (by omega) hz5 ?_; intro vt' w6 hown6 hbel6 hgt6 hgrow6 hnew6; have hq6 := Lib.hid (hin5.out.q.kept hgrow6 (own_apart hin5.out.q hin5.out.t (by decide))); have hz6 : w.heap.size ≤ w6.heap.size := (by omega); replace hown6 := Lib.hid hown6; clear hgrow6 hnew6)
        | (at_builtin; refine wpList_append_new_at info4 Tryz.underlying51 rfl (by decide) (by decide) w.heap.size hq6.out 1 rfl _ _ rfl rfl rfl (by simp) rfl rfl (by omega) hz6 ?_; intro vq' w7 hown7 hbel7 hgt7 hgrow7 hnew7))
      have hin7 : Hid (ItemsIn w.heap.size w7 vt' vq' (D ++ [(t, q)])) := Lib.hid (by
        refine ⟨?_, ?_⟩
        · have := hown6.out.kept hgrow7 (own_apart hown6.out hq6.out (by decide))
          rw [List.length_append]
          simpa [tCells] using this
        · rw [List.length_append]
          simpa [qCells] using hown7)
      have hB7 : Hid (Below w.heap.size w w7) := Lib.hid ((hB5w.out.trans hbel6).trans hbel7)
      clear hown7 hgrow7 hnew7 hbel6 hbel7 hitem
      by_cases hnme : n = m
      · subst hnme
        have e : r = some (D ++ [(t, q)]) := by rw [← hres.out, itemsG_end hI.out (by rw [hz.out, hm])]; rfl
        subst e
        clear hres
        go_wp2
        go_ret3
        exact ⟨⟨_, _, rfl, hin7.out⟩, hB7.out⟩
      · have hi1 : (n : Int) < (m : Int) := by omega
        have em : (n == m) = false := by simpa using hnme
        have em2 : ((n : Int) == (m : Int)) = false := by simp; omega
        have hlt : n < rest.size := by omega
        have hsi := Lib.hid (str_at hlt)
        obtain ⟨c, hc⟩ : ∃ c : UInt8, rest[n] = c := ⟨_, rfl⟩
        rw [hc] at hsi
        obtain ⟨k, hk⟩ : ∃ k : Int, (rest[n].toNat : Int) = k := ⟨_, rfl⟩
        have hck : Hid ((c.toNat : Int) = k) := Lib.hid (by rw [← hc]; exact hk)
        have hnl' : Hid (n ≠ rest.data.toList.length) := Lib.hid (by rw [hz.out]; omega)
        clear hc hnme
        by_cases h32 : k = 32
        · subst h32
          have hc32 : c = 32 := by
            have := hck.out
            exact UInt8.toNat_inj.1 (by show c.toNat = 32; omega)
          have hres2 : Hid ((itemsG (rest.data.toList.drop (n + 1))).map (fun z => (D ++ [(t, q)]) ++ z) = r) := Lib.hid (by
            rw [← hres.out, itemsG_go hI.out hnl'.out (by rw [hsi.out, hc32])]
            cases itemsG (rest.data.toList.drop (n + 1)) with
            | none => rfl
            | some z => simp)
          clear hres
          have hi2 : (n : Int) + 1 ≤ (m : Int) := by omega
          have hi3 : (0 : Int) ≤ (n : Int) + 1 := by omega
          go_wp2
          have hsz : (rest.extract (n + 1) m).size = m - (n + 1) := by rw [ByteArray.size_extract, hm]; omega
          have hda : (rest.extract (n + 1) m).data.toList = rest.data.toList.drop (n + 1) := by
            rw [ByteArray.data_extract, Array.toList_extract, List.extract_eq_take_drop, List.take_of_length_le (by rw [List.length_drop, hz.out]; omega)]
          refine ⟨⟨rest.extract (n + 1) m, D ++ [(t, q)], rfl, ?_, ?_, hin7, hB7⟩, ?_⟩
          · rw [hsz, List.length_append, List.length_singleton]
            omega
          · exact Lib.hid (by rw [hda]; exact hres2.out)
          · show (rest.extract (n + 1) m).size < rest.size
            omega
        · have hne : Hid (c ≠ 32) := Lib.hid (fun e => h32 (by rw [← hck.out, e]; rfl))
          have e : r = none := by
            rw [← hres.out, itemsG_bad hI.out hnl'.out (by rw [hsi.out]; exact fun h => hne.out (by simpa using h))]
            rfl
          have n32 : (k != 32) = true := by simpa [bne] using h32
          subst e
          clear hres h32
          go_wp2
          go_ret3
          exact ⟨rfl, hB7.out⟩
end Go.Proofs.YtghlodpbbghcoaaGreatDoor
