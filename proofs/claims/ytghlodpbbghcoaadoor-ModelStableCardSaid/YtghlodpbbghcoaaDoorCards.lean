/-
  DERIVED. GIVEN WITH THE SEED: THE CARDS: each row of YtghlodpbbghcoaaDoorRows.lean that lists a variable, with what it lists TIED to the program's text (the seventh form; the later family's looks); each row that meets fmt, with fmt's text TOLD by the authors' own Lean function (tested against real Go, not proved from fmt's source: count such statements apart). THE CARD IS WHAT COUNTS. Prove the row's statement (the work); the ties are given (YtghlodpbbghcoaaDoorTie.lean); close each card by the builder's one call (the guide's Derived/Test/ToyasCard.lean, 'card_holds'). Laid BY PROGRAM, IN A SANDBOX (cutbox-door.mjs). By AI agents, Wed Nov 11 2026. No macro, syntax, notation, axiom, sorry.
-/
import Derived.Test.YtghlodpbbghcoaaDoorRows
import GoSem.ClaimSeven
namespace Go.Proofs.YtghlodpbbghcoaaDoor
namespace Rows

/-- THE TIED CARD OF 'strainerlaw03.DomGood'. -/
def domGoodCard : Claim7 := { stood := { row := domGoodRow, standIns := [], harness := (true, "44bc768d48c5279d6174301f0f4150e64161457be3c4eddc0e3cb3de7a832435"), looks := false }, kinds := [], alts := [], laidByText := true, laidKinds := [.data, .pinned], laidTests := true, laidLooks := .later }
def DomGoodCardSaid : Prop := Claim7.holds Tryd.pinned (.plain (OpenSpec.ofChange domGoodSpec)) domGoodCard

/-- THE TIED CARD OF 'strainerlaw06.ModelStable'. -/
def modelStableCard : Claim7 := { stood := { row := modelStableRow, standIns := [], harness := (true, "44bc768d48c5279d6174301f0f4150e64161457be3c4eddc0e3cb3de7a832435"), looks := false }, kinds := [], alts := [], laidByText := true, laidKinds := [.data, .pinned], laidTests := true, laidLooks := .later }
def ModelStableCardSaid : Prop := Claim7.holds Tryd.pinned (.plain (OpenSpec.ofChange modelStableSpec)) modelStableCard

/-- THE TIED CARD OF 'strainerlaw06.ModelParts'. -/
def modelPartsCard : Claim7 := { stood := { row := modelPartsRow, standIns := [], harness := (true, "44bc768d48c5279d6174301f0f4150e64161457be3c4eddc0e3cb3de7a832435"), looks := false }, kinds := [], alts := [], laidByText := true, laidKinds := [.data, .pinned], laidTests := true, laidLooks := .later }
def ModelPartsCardSaid : Prop := Claim7.holds Tryd.pinned (.plain (OpenSpec.ofChange modelPartsSpec)) modelPartsCard

/-- THE TIED CARD OF 'strainerlaw06.ModelCloses'. -/
def modelClosesCard : Claim7 := { stood := { row := modelClosesRow, standIns := [], harness := (true, "44bc768d48c5279d6174301f0f4150e64161457be3c4eddc0e3cb3de7a832435"), looks := false }, kinds := [], alts := [], laidByText := true, laidKinds := [.data, .pinned], laidTests := true, laidLooks := .later }
def ModelClosesCardSaid : Prop := Claim7.holds Tryd.pinned (.plain (OpenSpec.ofChange modelClosesSpec)) modelClosesCard

/-- THE SECOND FORM's CARD OF 'strainerlaw03.DomGood'. -/
def domGoodUptoCard : Claim7 := { stood := { row := domGoodUptoRow, standIns := [], harness := (true, "44bc768d48c5279d6174301f0f4150e64161457be3c4eddc0e3cb3de7a832435"), looks := false }, kinds := [], alts := [], laidByText := true, laidKinds := [.data, .pinned], laidTests := true, laidLooks := .later }
def DomGoodUptoCardSaid : Prop := Claim7.holds Tryd.pinned (.plain (OpenSpec.upto domGoodSpec)) domGoodUptoCard

/-- THE SECOND FORM's CARD OF 'strainerlaw06.ModelStable'. -/
def modelStableUptoCard : Claim7 := { stood := { row := modelStableUptoRow, standIns := [], harness := (true, "44bc768d48c5279d6174301f0f4150e64161457be3c4eddc0e3cb3de7a832435"), looks := false }, kinds := [], alts := [], laidByText := true, laidKinds := [.data, .pinned], laidTests := true, laidLooks := .later }
def ModelStableUptoCardSaid : Prop := Claim7.holds Tryd.pinned (.plain (OpenSpec.upto modelStableSpec)) modelStableUptoCard

/-- THE SECOND FORM's CARD OF 'strainerlaw06.ModelParts'. -/
def modelPartsUptoCard : Claim7 := { stood := { row := modelPartsUptoRow, standIns := [], harness := (true, "44bc768d48c5279d6174301f0f4150e64161457be3c4eddc0e3cb3de7a832435"), looks := false }, kinds := [], alts := [], laidByText := true, laidKinds := [.data, .pinned], laidTests := true, laidLooks := .later }
def ModelPartsUptoCardSaid : Prop := Claim7.holds Tryd.pinned (.plain (OpenSpec.upto modelPartsSpec)) modelPartsUptoCard

/-- THE SECOND FORM's CARD OF 'strainerlaw06.ModelCloses'. -/
def modelClosesUptoCard : Claim7 := { stood := { row := modelClosesUptoRow, standIns := [], harness := (true, "44bc768d48c5279d6174301f0f4150e64161457be3c4eddc0e3cb3de7a832435"), looks := false }, kinds := [], alts := [], laidByText := true, laidKinds := [.data, .pinned], laidTests := true, laidLooks := .later }
def ModelClosesUptoCardSaid : Prop := Claim7.holds Tryd.pinned (.plain (OpenSpec.upto modelClosesSpec)) modelClosesUptoCard
end Rows
end Go.Proofs.YtghlodpbbghcoaaDoor
