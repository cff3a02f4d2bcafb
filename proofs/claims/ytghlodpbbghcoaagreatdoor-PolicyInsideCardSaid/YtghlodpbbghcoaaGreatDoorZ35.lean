/- few; the document's example of layer 13: walked. -/
import Derived.Test.YtghlodpbbghcoaaGreatDoorZ34
import Derived.Test.YtghlodpbbghcoaaGreatDoorZ22
import Derived.Deep.RegionWith
namespace Go.Proofs.YtghlodpbbghcoaaGreatDoor
open Go.Lib Go.RowKit Go.Maps
def cut30 (s : ByteArray) : ByteArray := if 30 < s.size then s.extract 0 30 else s
set_option maxRecDepth 8192 in
theorem few30_any (s : ByteArray) (w : World) : Calls Tryz.prog 11 #[.string s] w fun e w' => e = .returned (.string (cut30 s)) ∧ w' = w := by
  go_enter Tryz.func11, Tryz.ntmps11
  by_cases h : 30 < s.size
  · go_wp2
    go_ret
    exact ⟨by rw [cut30, if_pos h]; rfl, rfl⟩
  · go_wp2
    go_ret
    exact ⟨by rw [cut30, if_neg h]; rfl, rfl⟩
set_option maxRecDepth 8192 in
theorem equalNil_any (w : World) (f : Value) : Calls Tryz.prog 65 #[.slice none 0 0, .slice none 0 0, f] w fun e w' => e = .returned (.bool true) ∧ w' = w := by
  go_enter Tryz.func65, Tryz.ntmps65
  go_wp2
  go_loop [17] (fun x => x = .int .i64 0) (fun _ => 0)
  case atStart => exact rfl
  case round =>
    subst hrel
    go_wp2
    go_ret
    exact ⟨rfl, rfl⟩
set_option maxRecDepth 8192 in
theorem sameNil_any (w : World) : Calls Tryz.prog 37 #[.agg #[.slice none 0 0, .slice none 0 0, .slice none 0 0], .agg #[.slice none 0 0, .slice none 0 0, .slice none 0 0]] w fun e w' => e = .returned (.bool true) ∧ Below w.heap.size w w' := by
  have h1 := fun wx => Tryz.slices_Equal_string_empty none none 0 0 0 wx (by decide)
  go_enter Tryz.func37, Tryz.ntmps37
  go_wp2_with (first
    | (go_at_call 64; refine (h1 _).mono ?_; rintro e5 w5 ⟨rfl, e6⟩; obtain rfl := e6.symm)
    | (go_at_call 65; refine (equalNil_any _ _).mono ?_; rintro e5 w5 ⟨rfl, e6⟩; obtain rfl := e6.symm))
  go_ret
  exact ⟨rfl, ((Below.refl _ _).alloc (Nat.le_refl _) _).alloc (by simp) _⟩
set_option maxRecDepth 8192 in
set_option maxHeartbeats 1600000 in
theorem lives_any (w : World) : Calls Tryz.prog 14 #[] w fun e w' => e = .returned (.bool true) ∧ Below w.heap.size w w' := by
  have f1 := fun wx => fits_any ⟨#[100, 97, 116, 97, 45, 42]⟩ ⟨#[100, 97, 116, 97, 45, 97]⟩ (by decide) wx
  have f2 := fun wx => fits_any ⟨#[100, 97, 116, 97, 45, 42]⟩ ⟨#[100, 97, 116, 97]⟩ (by decide) wx
  rw [show fitsP ⟨#[100, 97, 116, 97, 45, 42]⟩ ⟨#[100, 97, 116, 97, 45, 97]⟩ = true by kernel_rfl] at f1
  rw [show fitsP ⟨#[100, 97, 116, 97, 45, 42]⟩ ⟨#[100, 97, 116, 97]⟩ = false by kernel_rfl] at f2
  have hnil : ∀ wx, PolAt wx (fun _ => False) (.slice none 0 0) (.slice none 0 0) (.slice none 0 0) ⟨[], [], []⟩ := fun wx => ⟨CRow.nil _ _ _, ⟨[], rfl, by simp, CRow.nil _ _ _⟩, CRow.nil _ _ _⟩
  have hfit : Pol.Fit ⟨[], [], []⟩ := ⟨⟨Nat.zero_le _, by simp⟩, ⟨Nat.zero_le _, by simp⟩, ⟨Nat.zero_le _, by simp⟩⟩
  have hmay : mayP (fun _ => false) ⟨[], [], []⟩ = true := by kernel_rfl
  have f3 : ∀ wx, Calls Tryz.prog 36 #[.agg #[.slice none 0 0, .slice none 0 0, .slice none 0 0]] wx fun e w' => e = .returned (.int .i64 0) ∧ Below wx.heap.size wx w' := fun wx =>
    (polMay_any (fun _ => false) (.slice none 0 0) (.slice none 0 0) (.slice none 0 0) ⟨[], [], []⟩ (fun _ => False) wx (fun _ h => False.elim h) (hnil wx) hfit (fun e he => absurd he (List.not_mem_nil))).mono (by
      rintro e w' ⟨x, rfl, hx, hB⟩
      rw [hmay] at hx
      exact ⟨by rw [of_decide_eq_true hx], hB⟩)
  clear hfit hmay hnil
  go_enter Tryz.func14, Tryz.ntmps14
  go_wp2_with (first
    | (go_at_call_of 13 (Value.string ⟨#[100, 97, 116, 97, 45, 97]⟩); refine (f1 _).mono ?_; rintro e5 w5 ⟨rfl, e6⟩; obtain rfl := e6.symm)
    | (go_at_call_of 13 (Value.string ⟨#[100, 97, 116, 97]⟩); refine (f2 _).mono ?_; rintro e5 w5 ⟨rfl, e6⟩; obtain rfl := e6.symm)
    | (go_at_call 36; refine (f3 _).mono ?_; rintro e5 w5 ⟨rfl, hB5⟩)
    | (go_at_call 37; refine (sameNil_any _).mono ?_; rintro e6 w6 ⟨rfl, hB6⟩))
  go_ret
  exact ⟨rfl, hB5.trans (hB6.mono hB5.size)⟩
end Go.Proofs.YtghlodpbbghcoaaGreatDoor
