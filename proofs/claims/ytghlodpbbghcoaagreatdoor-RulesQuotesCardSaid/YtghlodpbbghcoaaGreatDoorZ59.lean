/- The document's example of layer 14: walked. -/
import Derived.Test.YtghlodpbbghcoaaGreatDoorRE
import Derived.Test.YtghlodpbbghcoaaGreatDoorZ6
namespace Go.Proofs.YtghlodpbbghcoaaGreatDoor
open Go.Lib Go.RowKit Go.Maps
def text14 : ByteArray := ⟨#[115, 116, 114, 97, 105, 110, 101, 114, 32, 49, 10, 116, 111, 112, 32, 97, 10, 117, 110, 119, 114, 97, 112, 10, 101, 108, 101, 109, 101, 110, 116, 32, 97, 10, 107, 105, 100, 115, 10, 110, 101, 101, 100, 32, 104, 114, 101, 102, 32, 115, 99, 104, 101, 109, 101, 32, 34, 104, 116, 116, 112, 115, 34, 10]⟩
def rul14 : Rul := ⟨⟨#[104, 114, 101, 102]⟩, 3, [⟨#[104, 116, 116, 112, 115]⟩], ⟨#[]⟩, true⟩
def pol14 : Pol := ⟨[⟨#[97]⟩], [⟨⟨#[97]⟩, [], [rul14]⟩], []⟩
theorem lines14 : linesP rd0 (linesL text14.data.toList) = some ⟨5, pol14⟩ := by kernel_rfl
theorem may14 : mayP (fun _ => false) pol14 = true := by kernel_rfl
theorem fit14 : pol14.Fit := by
  refine ⟨⟨by decide, ?_⟩, ⟨by decide, ?_⟩, ⟨by decide, ?_⟩⟩
  · intro s hs
    obtain rfl : s = ⟨#[97]⟩ := by simpa [pol14] using hs
    decide
  · intro s hs
    simp [pol14] at hs
  · intro e he
    obtain rfl : e = ⟨⟨#[97]⟩, [], [rul14]⟩ := by simpa [pol14] using he
    refine ⟨by decide, by decide, by simp, by decide, ?_⟩
    intro r hr
    obtain rfl : r = rul14 := by simpa using hr
    refine ⟨by decide, by decide, ?_⟩
    intro s hs
    obtain rfl : s = ⟨#[104, 116, 116, 112, 115]⟩ := by simpa [rul14] using hs
    decide
theorem parse14 (w : World) : Calls Tryz.prog 26 #[.string text14] w (ParsePost pol14 w) :=
  parse_any text14 (by decide) ⟨5, pol14⟩ lines14 (.inl rfl) (fun _ => false) may14 fit14 (fun W' e he r hr hk => by
    obtain rfl : e = ⟨⟨#[97]⟩, [], [rul14]⟩ := by simpa [pol14] using he
    obtain rfl : r = rul14 := by simpa using hr
    exact absurd hk (by decide)) w
set_option maxRecDepth 8192 in
set_option maxHeartbeats 3200000 in
theorem lives14_any (w : World) : Calls Tryz.prog 24 #[] w fun e w' => e = .returned (.bool true) ∧ Below w.heap.size w w' := by
  have hp := parse14 w
  have hq := fun wx => quote_any ⟨#[97, 34]⟩ (by decide) wx
  rw [show quoteL (⟨#[97, 34]⟩ : ByteArray).data.toList = [34, 97, 92, 34, 34] from rfl] at hq
  have ht : (tx [34, 97, 92, 34, 34]).toList = [34, 97, 92, 34, 34] := by rw [ByteArray.toList_eq]; rfl
  go_enter Tryz.func24, Tryz.ntmps24
  go_upto_region 2 with (go_at_call 26; refine hp.mono ?_; rintro e1 w1 ⟨vt, ve, vu, rfl, hpol, hB1⟩; obtain ⟨At, nt, ct, rfl, -, -, -⟩ := hpol.top.form; obtain ⟨Au, nu, cu, rfl, -, -, -⟩ := hpol.unwrap.form; obtain ⟨Ae, ne, ce, rfl, hne, hce, hatE⟩ := hpol.elts.form; obtain rfl : ne = 1 := hne)
  obtain ⟨b, o, rfl, hb, hcell⟩ := hatE (by decide)
  obtain ⟨vk, vr, h0, h1, h2, hk, hr⟩ := hcell 0 (by decide)
  obtain ⟨Ar, nr, cr, rfl, hnr, hcr, hatR⟩ := hr.form
  obtain rfl : nr = 1 := hnr
  obtain ⟨b2, o2, rfl, hb2, hcell2⟩ := hatR (by decide)
  obtain ⟨vw, k0, k1, k2, k3, k4, kw⟩ := hcell2 0 (by decide)
  obtain ⟨w2, hw2⟩ : ∃ w2, w1.alloc (.cells #[.slice At nt ct, .slice (some ⟨b, o, none⟩) 1 ce, .slice Au nu cu] 25) = w2 := ⟨_, rfl⟩
  have hB2 : Hid (Below w1.heap.size w1 w2) := Lib.hid (by rw [← hw2]; exact (Below.refl _ _).alloc (Nat.le_refl _) _)
  have p1 : w2.cell? ⟨w1.heap.size, 1, none⟩ = some (.slice (some ⟨b, o, none⟩) 1 ce) := by rw [← hw2]; exact blk_cell (blk_new _ _) 1
  have e2 : w2.cell? ⟨b, o + 2, none⟩ = some (.slice (some ⟨b2, o2, none⟩) 1 cr) := by
    have := (hB2.out.cell (p := ⟨b, o + 0 * 3 + 2, none⟩) hb).trans h2
    simpa using this
  have r0 : w2.cell? ⟨b2, o2, none⟩ = some (.string ⟨#[104, 114, 101, 102]⟩) := by
    have := (hB2.out.cell (p := ⟨b2, o2 + 0 * 5, none⟩) hb2).trans k0
    rw [show o2 + 0 * 5 = o2 by omega] at this
    exact this
  have r4 : w2.cell? ⟨b2, o2 + 4, none⟩ = some (.bool true) := by
    have := (hB2.out.cell (p := ⟨b2, o2 + 0 * 5 + 4, none⟩) hb2).trans k4
    rw [show o2 + 0 * 5 + 4 = o2 + 4 by omega] at this
    exact this
  rw [hw2]
  clear hw2 h0 h1 h2 k0 k1 k2 k3 k4 hcell hcell2 hk hr kw hatE hatR hp
  go_wp2_with (go_at_call 22; refine (hq _).mono ?_; rintro e5 w5 ⟨rfl, hB5⟩)
  go_ret
  exact ⟨rfl, (hB1.trans (hB2.out.mono hB1.size)).trans (hB5.mono (hB1.trans (hB2.out.mono hB1.size)).size)⟩
end Go.Proofs.YtghlodpbbghcoaaGreatDoor
