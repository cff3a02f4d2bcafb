/- A policy that is made of any is printed and read: what the laws of layer 14 share. -/
import Derived.Test.YtghlodpbbghcoaaGreatDoorVC
import Derived.Test.YtghlodpbbghcoaaGreatDoorVB
import Derived.Test.YtghlodpbbghcoaaGreatDoorEI
import Derived.Test.YtghlodpbbghcoaaGreatDoorRE
namespace Go.Proofs.YtghlodpbbghcoaaGreatDoor
open Go.Lib Go.RowKit Go.Maps
theorem TzTab.of_below {w w' : World} (h : TzTab w) (hb : Below w.heap.size w w') : TzTab w' := h.below hb h.lt
/-- What Good makes, with the table of package bits as it lay. -/
def GoodT (p : Pol) (w : World) (e : Ending) (w' : World) : Prop :=
  ∃ (vt ve vu : Value) (q : Pol), e = .returned (.agg #[vt, ve, vu]) ∧ PolAt w' (fun k => k < w'.heap.size) vt ve vu q ∧ GoodOk p q ∧ Below w.heap.size w w' ∧ TzTab w'
theorem goodT_any (vt ve vu : Value) (p : Pol) (w wx : World) (h : PolAt w (fun k => k < w.heap.size) vt ve vu p) (hin : p.In) (hT : TzTab w) (hb : Below w.heap.size w wx) :
    Calls Tryz.prog 10 #[.agg #[vt, ve, vu]] wx (GoodT p wx) := by
  refine (good10_any vt ve vu p (fun k => k < w.heap.size) wx (fun _ hk => Nat.lt_of_lt_of_le hk hb.size) (h.move (Stays.below hb (fun _ h => h)) (fun _ h => h)) hin).mono ?_
  rintro e w' ⟨vt', ve', vu', q, rfl, hq, hok, hB⟩
  exact ⟨vt', ve', vu', q, rfl, hq.move (Stays.refl _ _) (fun _ h => h.2), hok, hB, (hT.of_below hb).of_below hB⟩
theorem printT_any (vt ve vu : Value) (p q : Pol) (w0 wx : World) (h : PolAt w0 (fun k => k < w0.heap.size) vt ve vu q) (hok : GoodOk p q) (hT : TzTab w0) (hb : Below w0.heap.size w0 wx) :
    Calls Tryz.prog 25 #[.agg #[vt, ve, vu]] wx (PrintPost q wx) :=
  print_any (fun _ => true) vt ve vu q (fun k => k < w0.heap.size) wx (fun _ hk => Nat.lt_of_lt_of_le hk hb.size) (h.move (Stays.below hb (fun _ h => h)) (fun _ h => h)) hok.fit hok.sml hok.may
    (fun e he r hr hk W' hb' => matches_any r.regex (hok.four e he r hr hk).2 W' ((hT.of_below hb).of_below hb'))
theorem refT_any (vt ve vu : Value) (p q : Pol) (w0 wx : World) (h : PolAt w0 (fun k => k < w0.heap.size) vt ve vu q) (hok : GoodOk p q) (hb : Below w0.heap.size w0 wx) :
    Calls Tryz.prog 27 #[.agg #[vt, ve, vu]] wx (TxIs (printB q) wx) :=
  refPrint_any vt ve vu q (fun k => k < w0.heap.size) wx (fun _ hk => Nat.lt_of_lt_of_le hk hb.size) (h.move (Stays.below hb (fun _ h => h)) (fun _ h => h)) hok.sml (fun e he r hr hk => (hok.four e he r hr hk).1)
theorem sameT_any (vt ve vu vt2 ve2 vu2 : Value) (p q : Pol) (w0 w1 wx : World) (h : PolAt w1 (fun k => k < w1.heap.size) vt ve vu q) (g : PolAt w0 (fun k => k < w0.heap.size) vt2 ve2 vu2 q) (hok : GoodOk p q) (hb : Below w0.heap.size w0 wx) (hb1 : Below w1.heap.size w1 wx) :
    Calls Tryz.prog 28 #[.agg #[vt, ve, vu], .agg #[vt2, ve2, vu2]] wx fun e w' => e = .returned (.bool true) ∧ Below wx.heap.size wx w' :=
  same13_any vt ve vu vt2 ve2 vu2 q (fun k => k < w1.heap.size) (fun k => k < w0.heap.size) wx (fun _ hk => Nat.lt_of_lt_of_le hk hb1.size) (fun _ hk => Nat.lt_of_lt_of_le hk hb.size)
    (h.move (Stays.below hb1 (fun _ h => h)) (fun _ h => h)) (g.move (Stays.below hb (fun _ h => h)) (fun _ h => h)) hok.sml
theorem printB_len {q : Pol} (h : q.Sml) : (printB q).length ≤ 100000 := by
  have h1 := lineB_len (word := ⟨#[116, 111, 112]⟩) (by decide) h.top
  have h2 := lineB_len (word := ⟨#[117, 110, 119, 114, 97, 112]⟩) (by decide) h.unwrap
  have h3 := flatMap_len eltB 7100 q.elts (fun e he => eltB_len (h.elts.2 e he))
  have h4 := h.elts.1
  unfold printB
  simp only [List.length_append, List.length_cons, List.length_nil]
  have : q.elts.length * 7100 ≤ 10 * 7100 := Nat.mul_le_mul_right _ (by omega)
  omega
theorem parseT_any (p q : Pol) (w0 wx : World) (hok : GoodOk p q) (hT : TzTab w0) (hb : Below w0.heap.size w0 wx) :
    Calls Tryz.prog 26 #[.string (tx (printB q))] wx (ParsePost q wx) := by
  have hl := printB_len hok.sml
  refine parse_any (tx (printB q)) (by rw [tx_size]; omega) ⟨if q.elts = [] then 3 else 5, q⟩ (lines_print q hok.rdb) (by split <;> simp) (fun _ => true) hok.may hok.fit wx
    (fun W' hb' e he r hr hk => matches_any r.regex (hok.four e he r hr hk).2 W' ((hT.of_below hb).of_below hb'))
end Go.Proofs.YtghlodpbbghcoaaGreatDoor
