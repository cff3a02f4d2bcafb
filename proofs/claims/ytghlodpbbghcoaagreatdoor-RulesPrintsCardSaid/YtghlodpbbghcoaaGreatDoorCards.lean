/-
  DERIVED. GIVEN WITH THE SEED: THE CARDS: each row of YtghlodpbbghcoaaGreatDoorRows.lean that lists a variable, with what it lists TIED to the program's text (the seventh form; the later family's looks); each row that meets fmt, with fmt's text TOLD by the authors' own Lean function (tested against real Go, not proved from fmt's source: count such statements apart). THE CARD IS WHAT COUNTS. Prove the row's statement (the work); the ties are given (YtghlodpbbghcoaaGreatDoorTie.lean); close each card by the builder's one call (the guide's Derived/Test/ToyasCard.lean, 'card_holds'). Laid BY PROGRAM, IN A SANDBOX (cutbox-door.mjs). By AI agents, Wed Nov 11 2026. No macro, syntax, notation, axiom, sorry.
-/
import Derived.Test.YtghlodpbbghcoaaGreatDoorRows
import GoSem.ClaimSeven
namespace Go.Proofs.YtghlodpbbghcoaaGreatDoor
namespace Rows

/-- THE TIED CARD OF 'strainerlaw13.PolicyFirst'. -/
def policyFirstCard : Claim7 := { stood := { row := policyFirstRow, standIns := [], harness := (true, "cb2627fc84688daa4ee11e423c77d0223a9ad123659152a7c8da5172cf0902d6"), looks := false }, kinds := [], alts := [], laidByText := true, laidKinds := [.data], laidTests := true, laidLooks := .later }
def PolicyFirstCardSaid : Prop := Claim7.holds Tryz.pinned (.plain (OpenSpec.ofChange policyFirstSpec)) policyFirstCard

/-- THE TIED CARD OF 'strainerlaw13.PolicyInside'. -/
def policyInsideCard : Claim7 := { stood := { row := policyInsideRow, standIns := [], harness := (true, "cb2627fc84688daa4ee11e423c77d0223a9ad123659152a7c8da5172cf0902d6"), looks := false }, kinds := [], alts := [], laidByText := true, laidKinds := [.data], laidTests := true, laidLooks := .later }
def PolicyInsideCardSaid : Prop := Claim7.holds Tryz.pinned (.plain (OpenSpec.ofChange policyInsideSpec)) policyInsideCard

/-- THE TIED CARD OF 'strainerlaw13.PolicyTop'. -/
def policyTopCard : Claim7 := { stood := { row := policyTopRow, standIns := [], harness := (true, "cb2627fc84688daa4ee11e423c77d0223a9ad123659152a7c8da5172cf0902d6"), looks := false }, kinds := [], alts := [], laidByText := true, laidKinds := [.data], laidTests := true, laidLooks := .later }
def PolicyTopCardSaid : Prop := Claim7.holds Tryz.pinned (.plain (OpenSpec.ofChange policyTopSpec)) policyTopCard

/-- THE TIED CARD OF 'strainerlaw14.RulesItems'. -/
def rulesItemsCard : Claim7 := { stood := { row := rulesItemsRow, standIns := [], harness := (true, "cb2627fc84688daa4ee11e423c77d0223a9ad123659152a7c8da5172cf0902d6"), looks := false }, kinds := [], alts := [], laidByText := true, laidKinds := [.data], laidTests := true, laidLooks := .later }
def RulesItemsCardSaid : Prop := Claim7.holds Tryz.pinned (.plain (OpenSpec.ofChange rulesItemsSpec)) rulesItemsCard

/-- THE TIED CARD OF 'strainerlaw14.RulesQuotes'. -/
def rulesQuotesCard : Claim7 := { stood := { row := rulesQuotesRow, standIns := [], harness := (true, "cb2627fc84688daa4ee11e423c77d0223a9ad123659152a7c8da5172cf0902d6"), looks := false }, kinds := [], alts := [], laidByText := true, laidKinds := [.data], laidTests := true, laidLooks := .later }
def RulesQuotesCardSaid : Prop := Claim7.holds Tryz.pinned (.plain (OpenSpec.ofChange rulesQuotesSpec)) rulesQuotesCard

/-- THE TIED CARD OF 'strainerlaw14.RulesPrints'. -/
def rulesPrintsCard : Claim7 := { stood := { row := rulesPrintsRow, standIns := [], harness := (true, "cb2627fc84688daa4ee11e423c77d0223a9ad123659152a7c8da5172cf0902d6"), looks := false }, kinds := [], alts := [], laidByText := true, laidKinds := [.data], laidTests := true, laidLooks := .later }
def RulesPrintsCardSaid : Prop := Claim7.holds Tryz.pinned (.plain (OpenSpec.ofChange rulesPrintsSpec)) rulesPrintsCard

/-- THE TIED CARD OF 'strainerlaw14.RulesLines'. -/
def rulesLinesCard : Claim7 := { stood := { row := rulesLinesRow, standIns := [], harness := (true, "cb2627fc84688daa4ee11e423c77d0223a9ad123659152a7c8da5172cf0902d6"), looks := false }, kinds := [], alts := [], laidByText := true, laidKinds := [.data], laidTests := true, laidLooks := .later }
def RulesLinesCardSaid : Prop := Claim7.holds Tryz.pinned (.plain (OpenSpec.ofChange rulesLinesSpec)) rulesLinesCard

/-- THE SECOND FORM's CARD OF 'strainerlaw13.PolicyFirst'. -/
def policyFirstUptoCard : Claim7 := { stood := { row := policyFirstUptoRow, standIns := [], harness := (true, "cb2627fc84688daa4ee11e423c77d0223a9ad123659152a7c8da5172cf0902d6"), looks := false }, kinds := [], alts := [], laidByText := true, laidKinds := [.data], laidTests := true, laidLooks := .later }
def PolicyFirstUptoCardSaid : Prop := Claim7.holds Tryz.pinned (.plain (OpenSpec.upto policyFirstSpec)) policyFirstUptoCard

/-- THE SECOND FORM's CARD OF 'strainerlaw13.PolicyInside'. -/
def policyInsideUptoCard : Claim7 := { stood := { row := policyInsideUptoRow, standIns := [], harness := (true, "cb2627fc84688daa4ee11e423c77d0223a9ad123659152a7c8da5172cf0902d6"), looks := false }, kinds := [], alts := [], laidByText := true, laidKinds := [.data], laidTests := true, laidLooks := .later }
def PolicyInsideUptoCardSaid : Prop := Claim7.holds Tryz.pinned (.plain (OpenSpec.upto policyInsideSpec)) policyInsideUptoCard

/-- THE SECOND FORM's CARD OF 'strainerlaw13.PolicyTop'. -/
def policyTopUptoCard : Claim7 := { stood := { row := policyTopUptoRow, standIns := [], harness := (true, "cb2627fc84688daa4ee11e423c77d0223a9ad123659152a7c8da5172cf0902d6"), looks := false }, kinds := [], alts := [], laidByText := true, laidKinds := [.data], laidTests := true, laidLooks := .later }
def PolicyTopUptoCardSaid : Prop := Claim7.holds Tryz.pinned (.plain (OpenSpec.upto policyTopSpec)) policyTopUptoCard

/-- THE SECOND FORM's CARD OF 'strainerlaw14.RulesItems'. -/
def rulesItemsUptoCard : Claim7 := { stood := { row := rulesItemsUptoRow, standIns := [], harness := (true, "cb2627fc84688daa4ee11e423c77d0223a9ad123659152a7c8da5172cf0902d6"), looks := false }, kinds := [], alts := [], laidByText := true, laidKinds := [.data], laidTests := true, laidLooks := .later }
def RulesItemsUptoCardSaid : Prop := Claim7.holds Tryz.pinned (.plain (OpenSpec.upto rulesItemsSpec)) rulesItemsUptoCard

/-- THE SECOND FORM's CARD OF 'strainerlaw14.RulesQuotes'. -/
def rulesQuotesUptoCard : Claim7 := { stood := { row := rulesQuotesUptoRow, standIns := [], harness := (true, "cb2627fc84688daa4ee11e423c77d0223a9ad123659152a7c8da5172cf0902d6"), looks := false }, kinds := [], alts := [], laidByText := true, laidKinds := [.data], laidTests := true, laidLooks := .later }
def RulesQuotesUptoCardSaid : Prop := Claim7.holds Tryz.pinned (.plain (OpenSpec.upto rulesQuotesSpec)) rulesQuotesUptoCard

/-- THE SECOND FORM's CARD OF 'strainerlaw14.RulesPrints'. -/
def rulesPrintsUptoCard : Claim7 := { stood := { row := rulesPrintsUptoRow, standIns := [], harness := (true, "cb2627fc84688daa4ee11e423c77d0223a9ad123659152a7c8da5172cf0902d6"), looks := false }, kinds := [], alts := [], laidByText := true, laidKinds := [.data], laidTests := true, laidLooks := .later }
def RulesPrintsUptoCardSaid : Prop := Claim7.holds Tryz.pinned (.plain (OpenSpec.upto rulesPrintsSpec)) rulesPrintsUptoCard

/-- THE SECOND FORM's CARD OF 'strainerlaw14.RulesLines'. -/
def rulesLinesUptoCard : Claim7 := { stood := { row := rulesLinesUptoRow, standIns := [], harness := (true, "cb2627fc84688daa4ee11e423c77d0223a9ad123659152a7c8da5172cf0902d6"), looks := false }, kinds := [], alts := [], laidByText := true, laidKinds := [.data], laidTests := true, laidLooks := .later }
def RulesLinesUptoCardSaid : Prop := Claim7.holds Tryz.pinned (.plain (OpenSpec.upto rulesLinesSpec)) rulesLinesUptoCard
end Rows
end Go.Proofs.YtghlodpbbghcoaaGreatDoor
