/- Whether a node stays; which nodes are stable: walked. -/
import Derived.Test.YtghlodpbbghcoaaDoorN16
import Derived.Test.YtghlodpbbghcoaaDoorD6
namespace Go.Proofs.YtghlodpbbghcoaaDoor
open Go.Lib Go.RowKit Go.Shelf
def arrowB : ByteArray := ⟨#[45, 45, 62]⟩
noncomputable def staysB (parent : ByteArray) (k : Int) (nm tx : ByteArray) : Bool := fitsB parent k nm tx && (decide (k ≠ 3) || !Lib.contains tx.data.toList [45, 45, 62])

open Classical in
set_option maxRecDepth 8192 in
set_option maxHeartbeats 3200000 in
theorem stays_any (parent : ByteArray) (b o B : Nat) (k : Int) (nm tx : ByteArray) (Aa Ak : Option Addr) (na nk ca ck : Nat) (w : World) (hM : MaxAt w) (hp : parent.size ≤ 1000) (htx : tx.size ≤ 500000) (hb : b < w.heap.size)
    (c0 : w.cell? ⟨b, o, none⟩ = some (.int .i64 k)) (c1 : w.cell? ⟨b, o + 1, none⟩ = some (.string nm)) (c2 : w.cell? ⟨b, o + 2, none⟩ = some (.slice Aa na ca)) (c3 : w.cell? ⟨b, o + 3, none⟩ = some (.string tx)) (c4 : w.cell? ⟨b, o + 4, none⟩ = some (.slice Ak nk ck)) :
    Calls Tryd.prog 35 #[.string parent, .pointer (some ⟨b, o, none⟩)] w fun e w' => e = .returned (.bool (staysB parent k nm tx)) ∧ Below w.heap.size w w' := by
  have hfits := fits_any parent k nm tx Aa Ak na nk ca ck w hM hp htx
  obtain ⟨r, hr⟩ : ∃ r, staysB parent k nm tx = r := ⟨_, rfl⟩
  rw [hr]
  obtain ⟨fb, hfb⟩ : ∃ fb, fitsB parent k nm tx = fb := ⟨_, rfl⟩
  rw [hfb] at hfits
  have hr2 : Hid (r = (fb && (decide (k ≠ 3) || !Lib.contains tx.data.toList [45, 45, 62]))) := Lib.hid (by rw [← hr, staysB, hfb])
  clear hr hfb
  cases fb with
  | false =>
    have e : r = false := by rw [hr2.out]; rfl
    clear hr2
    subst e
    go_enter Tryd.func35, Tryd.ntmps35
    go_wp2_with (go_at_call 17; refine hfits.mono ?_; rintro e w2 ⟨rfl, hB2⟩)
    go_ret
    exact ⟨rfl, hB2⟩
  | true =>
    by_cases hk : k = 3
    · subst hk
      obtain ⟨ct, hct⟩ : ∃ ct, Lib.contains tx.data.toList [45, 45, 62] = ct := ⟨_, rfl⟩
      have e : r = !ct := by rw [hr2.out, hct]; simp
      clear hr2
      subst e
      go_enter Tryd.func35, Tryd.ntmps35
      go_wp2_with (first
        | (go_at_call 17; refine hfits.mono ?_; rintro e w2 ⟨rfl, hB2⟩; have x0 := (hB2.cell (p := ⟨b, o, none⟩) hb).trans c0; have x3 := (hB2.cell (p := ⟨b, o + 3, none⟩) hb).trans c3; obtain ⟨m, hm⟩ := hM.below hB2)
        | (go_at_call 56; refine (Tryd.strings_Contains tx ⟨#[45, 45, 62]⟩ m _ (by omega) hm).mono ?_; rintro e w3 ⟨rfl, rfl⟩))
      go_ret
      subst hct
      exact ⟨rfl, hB2⟩
    · have e : r = true := by rw [hr2.out]; simp [hk]
      clear hr2
      subst e
      have hkn : (k != 3) = true := by simpa [bne] using hk
      clear hk
      go_enter Tryd.func35, Tryd.ntmps35
      go_wp2_with (go_at_call 17; refine hfits.mono ?_; rintro e w2 ⟨rfl, hB2⟩; have x0 := (hB2.cell (p := ⟨b, o, none⟩) hb).trans c0)
      go_ret
      exact ⟨rfl, hB2⟩
end Go.Proofs.YtghlodpbbghcoaaDoor
