/-
  NARROWER THAN 'FOR EVERY INPUT', by the rows' own cells (each row's printed sentence says how): PolicyFirst: laid · PolicyInside: loops, laid · PolicyTop: loops, laid · RulesItems: laid · RulesQuotes: laid · RulesPrints: laid · RulesLines: laid.
  DERIVED. THE GIVEN ROWS OF THIS SEAT. 7 by the template 'for every input the law returns true; each argument reads behind the call as it read before'; 0 by the template 'total and deterministic' (their statements: YtghlodpbbghcoaaGreatDoorTotals.lean).
  GIVEN WITH THE SEED: the statements are not yours to turn. If you find one false, say at which input.
  Laid BY PROGRAM, IN A SANDBOX (cutbox-rows.mjs): the forced cells as the released guide's own fill.sh prints them over the translation 6073e6a18e0ced82… (all of the seat's roots in one cut). By AI agents, Wed Nov 11 2026. No macro, syntax, notation, axiom, sorry.
-/
import Derived.Test.YtghlodpbbghcoaaGreatDoorChecked
import GoSem.Claim
import GoSem.ClaimJoined
import GoSem.ClaimMapViews
import Derived.JoinedTies
import Derived.KernelRfl
namespace Go.Proofs.YtghlodpbbghcoaaGreatDoor
/- THE CELL 'sum', in the pinned program and in every row, IS THE sha256 OF THE DUMP (.gsa) THAT YtghlodpbbghcoaaGreatDoorProg.lean LOADS. Nothing in Lean hashes anything: it is a label: what it is worth is what the hold of that sum in a sandbox is worth. -/
noncomputable def Tryz.pinned : Pinned := { name := "ytghlodpbbghcoaagreatdoor", sum := "6073e6a18e0ced8229012be1d18e8be6f24e4beaf7aca56b4f67ff95716acd11", checked := Tryz.checked }
namespace Rows
def none {H : Type} : Left H := { results := [], args := [] }

/- WHAT THE LISTED PACKAGE-LEVEL VARIABLES READ AS WHEN THE CALL BEGINS. Each datum BY PROGRAM (the guide's laid-datum.mjs) off the statement by which the dump's own 'gosem.cut.vars' lays the variable. In a bare row this is a premise. The card (YtghlodpbbghcoaaGreatDoorCards.lean) ties it to the program's text. -/
def laid_math_bits_deBruijn64tab {H : Type} : DataW H := .agg [.lit (.int .u8 0), .lit (.int .u8 1), .lit (.int .u8 56), .lit (.int .u8 2), .lit (.int .u8 57), .lit (.int .u8 49), .lit (.int .u8 28), .lit (.int .u8 3), .lit (.int .u8 61), .lit (.int .u8 58), .lit (.int .u8 42), .lit (.int .u8 50), .lit (.int .u8 38), .lit (.int .u8 29), .lit (.int .u8 17), .lit (.int .u8 4), .lit (.int .u8 62), .lit (.int .u8 47), .lit (.int .u8 59), .lit (.int .u8 36), .lit (.int .u8 45), .lit (.int .u8 43), .lit (.int .u8 51), .lit (.int .u8 22), .lit (.int .u8 53), .lit (.int .u8 39), .lit (.int .u8 33), .lit (.int .u8 30), .lit (.int .u8 24), .lit (.int .u8 18), .lit (.int .u8 12), .lit (.int .u8 5), .lit (.int .u8 63), .lit (.int .u8 55), .lit (.int .u8 48), .lit (.int .u8 27), .lit (.int .u8 60), .lit (.int .u8 41), .lit (.int .u8 37), .lit (.int .u8 16), .lit (.int .u8 46), .lit (.int .u8 35), .lit (.int .u8 44), .lit (.int .u8 21), .lit (.int .u8 52), .lit (.int .u8 32), .lit (.int .u8 23), .lit (.int .u8 11), .lit (.int .u8 54), .lit (.int .u8 26), .lit (.int .u8 40), .lit (.int .u8 15), .lit (.int .u8 34), .lit (.int .u8 20), .lit (.int .u8 31), .lit (.int .u8 10), .lit (.int .u8 25), .lit (.int .u8 14), .lit (.int .u8 19), .lit (.int .u8 9), .lit (.int .u8 13), .lit (.int .u8 8), .lit (.int .u8 7), .lit (.int .u8 6)]

/-- 'strainerlaw13.PolicyFirst': WHATEVER THE INPUT: true; the input reads as it did. -/
def policyFirstSpec : ChangeSpec := { name := "policyFirst", fn := fun _ => fun
  | [d1, d2] => { results := [.lit (.bool true)], args := [d1, d2] }
  | _ => none }
def policyFirstRow : OpenClaim := { program := "ytghlodpbbghcoaagreatdoor", sum := "6073e6a18e0ced8229012be1d18e8be6f24e4beaf7aca56b4f67ff95716acd11", func := "strainer/strainerlaw13.PolicyFirst", spec := "policyFirst", inPlace := ["internal/bytealg.IndexByteString"], unfollowed := true, recurses := true, named := ["math/bits.deBruijn64tab"], plainKeys := false, apart := false, laid := [("math/bits.deBruijn64tab", laid_math_bits_deBruijn64tab)] }
def PolicyFirstSaid : Prop := policyFirstRow.holds Tryz.pinned (OpenSpec.ofChange policyFirstSpec)

/-- ITS FALSE NEIGHBOUR: 'it returns false'. Refute it at one input. -/
def policyFirstWrong : ChangeSpec := { name := "policyFirst", fn := fun _ => fun
  | [d1, d2] => { results := [.lit (.bool false)], args := [d1, d2] }
  | _ => none }
def PolicyFirstWrongFalsely : Prop := policyFirstRow.holds Tryz.pinned (OpenSpec.ofChange policyFirstWrong)

/-- 'strainerlaw13.PolicyInside': WHATEVER THE INPUT: true; the input reads as it did. -/
def policyInsideSpec : ChangeSpec := { name := "policyInside", fn := fun _ => fun
  | [d1, d2, d3] => { results := [.lit (.bool true)], args := [d1, d2, d3] }
  | _ => none }
def policyInsideRow : OpenClaim := { program := "ytghlodpbbghcoaagreatdoor", sum := "6073e6a18e0ced8229012be1d18e8be6f24e4beaf7aca56b4f67ff95716acd11", func := "strainer/strainerlaw13.PolicyInside", spec := "policyInside", inPlace := ["internal/bytealg.IndexByteString"], unfollowed := true, recurses := true, named := ["math/bits.deBruijn64tab"], loops := true, plainKeys := false, apart := false, laid := [("math/bits.deBruijn64tab", laid_math_bits_deBruijn64tab)] }
def PolicyInsideSaid : Prop := policyInsideRow.holds Tryz.pinned (OpenSpec.ofChange policyInsideSpec)

/-- ITS FALSE NEIGHBOUR: 'it returns false'. Refute it at one input. -/
def policyInsideWrong : ChangeSpec := { name := "policyInside", fn := fun _ => fun
  | [d1, d2, d3] => { results := [.lit (.bool false)], args := [d1, d2, d3] }
  | _ => none }
def PolicyInsideWrongFalsely : Prop := policyInsideRow.holds Tryz.pinned (OpenSpec.ofChange policyInsideWrong)

/-- 'strainerlaw13.PolicyTop': WHATEVER THE INPUT: true; the input reads as it did. -/
def policyTopSpec : ChangeSpec := { name := "policyTop", fn := fun _ => fun
  | [d1, d2] => { results := [.lit (.bool true)], args := [d1, d2] }
  | _ => none }
def policyTopRow : OpenClaim := { program := "ytghlodpbbghcoaagreatdoor", sum := "6073e6a18e0ced8229012be1d18e8be6f24e4beaf7aca56b4f67ff95716acd11", func := "strainer/strainerlaw13.PolicyTop", spec := "policyTop", inPlace := ["internal/bytealg.IndexByteString"], unfollowed := true, recurses := true, named := ["math/bits.deBruijn64tab"], loops := true, plainKeys := false, apart := false, laid := [("math/bits.deBruijn64tab", laid_math_bits_deBruijn64tab)] }
def PolicyTopSaid : Prop := policyTopRow.holds Tryz.pinned (OpenSpec.ofChange policyTopSpec)

/-- ITS FALSE NEIGHBOUR: 'it returns false'. Refute it at one input. -/
def policyTopWrong : ChangeSpec := { name := "policyTop", fn := fun _ => fun
  | [d1, d2] => { results := [.lit (.bool false)], args := [d1, d2] }
  | _ => none }
def PolicyTopWrongFalsely : Prop := policyTopRow.holds Tryz.pinned (OpenSpec.ofChange policyTopWrong)

/-- 'strainerlaw14.RulesItems': WHATEVER THE INPUT: true; the input reads as it did. -/
def rulesItemsSpec : ChangeSpec := { name := "rulesItems", fn := fun _ => fun
  | [d] => { results := [.lit (.bool true)], args := [d] }
  | _ => none }
def rulesItemsRow : OpenClaim := { program := "ytghlodpbbghcoaagreatdoor", sum := "6073e6a18e0ced8229012be1d18e8be6f24e4beaf7aca56b4f67ff95716acd11", func := "strainer/strainerlaw14.RulesItems", spec := "rulesItems", inPlace := ["internal/bytealg.IndexByteString"], unfollowed := true, recurses := true, named := ["math/bits.deBruijn64tab"], plainKeys := false, apart := false, laid := [("math/bits.deBruijn64tab", laid_math_bits_deBruijn64tab)] }
def RulesItemsSaid : Prop := rulesItemsRow.holds Tryz.pinned (OpenSpec.ofChange rulesItemsSpec)

/-- ITS FALSE NEIGHBOUR: 'it returns false'. Refute it at one input. -/
def rulesItemsWrong : ChangeSpec := { name := "rulesItems", fn := fun _ => fun
  | [d] => { results := [.lit (.bool false)], args := [d] }
  | _ => none }
def RulesItemsWrongFalsely : Prop := rulesItemsRow.holds Tryz.pinned (OpenSpec.ofChange rulesItemsWrong)

/-- 'strainerlaw14.RulesQuotes': WHATEVER THE INPUT: true; the input reads as it did. -/
def rulesQuotesSpec : ChangeSpec := { name := "rulesQuotes", fn := fun _ => fun
  | [d] => { results := [.lit (.bool true)], args := [d] }
  | _ => none }
def rulesQuotesRow : OpenClaim := { program := "ytghlodpbbghcoaagreatdoor", sum := "6073e6a18e0ced8229012be1d18e8be6f24e4beaf7aca56b4f67ff95716acd11", func := "strainer/strainerlaw14.RulesQuotes", spec := "rulesQuotes", inPlace := ["internal/bytealg.IndexByteString"], unfollowed := true, recurses := true, named := ["math/bits.deBruijn64tab"], plainKeys := false, apart := false, laid := [("math/bits.deBruijn64tab", laid_math_bits_deBruijn64tab)] }
def RulesQuotesSaid : Prop := rulesQuotesRow.holds Tryz.pinned (OpenSpec.ofChange rulesQuotesSpec)

/-- ITS FALSE NEIGHBOUR: 'it returns false'. Refute it at one input. -/
def rulesQuotesWrong : ChangeSpec := { name := "rulesQuotes", fn := fun _ => fun
  | [d] => { results := [.lit (.bool false)], args := [d] }
  | _ => none }
def RulesQuotesWrongFalsely : Prop := rulesQuotesRow.holds Tryz.pinned (OpenSpec.ofChange rulesQuotesWrong)

/-- 'strainerlaw14.RulesPrints': WHATEVER THE INPUT: true; the input reads as it did. -/
def rulesPrintsSpec : ChangeSpec := { name := "rulesPrints", fn := fun _ => fun
  | [d] => { results := [.lit (.bool true)], args := [d] }
  | _ => none }
def rulesPrintsRow : OpenClaim := { program := "ytghlodpbbghcoaagreatdoor", sum := "6073e6a18e0ced8229012be1d18e8be6f24e4beaf7aca56b4f67ff95716acd11", func := "strainer/strainerlaw14.RulesPrints", spec := "rulesPrints", inPlace := ["internal/bytealg.IndexByteString"], unfollowed := true, recurses := true, named := ["math/bits.deBruijn64tab"], plainKeys := false, apart := false, laid := [("math/bits.deBruijn64tab", laid_math_bits_deBruijn64tab)] }
def RulesPrintsSaid : Prop := rulesPrintsRow.holds Tryz.pinned (OpenSpec.ofChange rulesPrintsSpec)

/-- ITS FALSE NEIGHBOUR: 'it returns false'. Refute it at one input. -/
def rulesPrintsWrong : ChangeSpec := { name := "rulesPrints", fn := fun _ => fun
  | [d] => { results := [.lit (.bool false)], args := [d] }
  | _ => none }
def RulesPrintsWrongFalsely : Prop := rulesPrintsRow.holds Tryz.pinned (OpenSpec.ofChange rulesPrintsWrong)

/-- 'strainerlaw14.RulesLines': WHATEVER THE INPUT: true; the input reads as it did. -/
def rulesLinesSpec : ChangeSpec := { name := "rulesLines", fn := fun _ => fun
  | [d] => { results := [.lit (.bool true)], args := [d] }
  | _ => none }
def rulesLinesRow : OpenClaim := { program := "ytghlodpbbghcoaagreatdoor", sum := "6073e6a18e0ced8229012be1d18e8be6f24e4beaf7aca56b4f67ff95716acd11", func := "strainer/strainerlaw14.RulesLines", spec := "rulesLines", inPlace := ["internal/bytealg.IndexByteString"], unfollowed := true, recurses := true, named := ["math/bits.deBruijn64tab"], plainKeys := false, apart := false, laid := [("math/bits.deBruijn64tab", laid_math_bits_deBruijn64tab)] }
def RulesLinesSaid : Prop := rulesLinesRow.holds Tryz.pinned (OpenSpec.ofChange rulesLinesSpec)

/-- ITS FALSE NEIGHBOUR: 'it returns false'. Refute it at one input. -/
def rulesLinesWrong : ChangeSpec := { name := "rulesLines", fn := fun _ => fun
  | [d] => { results := [.lit (.bool false)], args := [d] }
  | _ => none }
def RulesLinesWrongFalsely : Prop := rulesLinesRow.holds Tryz.pinned (OpenSpec.ofChange rulesLinesWrong)

/- THE SECOND FORM. 'bulk': how many values and letters a reading holds, each counted each time it is reached (what is shared counts as often as it is met; a slice's spare places count too). A statement '..UptoSaid' is the law's where the arguments, and the package variables that the reading takes, are together of bulk at most 1048576: NARROWER than '..Said'. Prove '..Said' where nothing that the law and all that it calls make is longer than what came in: it says more and counts as full. Else prove '..UptoSaid'. A law counts once. -/
mutual
def uptoBulk {H : Type} : DataW H → Nat
  | .lit (.string bytes) => bytes.length + 1
  | .lit _ => 1
  | .nil => 1
  | .ptr d => uptoBulk d + 1
  | .slice elems spare => uptoBulkAll elems + uptoBulkAll spare + 1
  | .agg parts => uptoBulkAll parts + 1
  | .iface _ d => uptoBulk d + 1
  | .map entries => uptoBulkEntries entries + 1
  | .held _ => 1
def uptoBulkAll {H : Type} : List (DataW H) → Nat
  | [] => 0
  | d :: r => uptoBulk d + uptoBulkAll r
def uptoBulkEntries {H : Type} : List (Lit × DataW H) → Nat
  | [] => 0
  | x :: r => uptoBulkEntry x + uptoBulkEntries r
def uptoBulkEntry {H : Type} : Lit × DataW H → Nat
  | (.string bytes, d) => bytes.length + uptoBulk d + 1
  | (_, d) => uptoBulk d + 1
 end
def uptoSmall : (H : Type) → List (DataW H) → Bool := fun _ ds => decide (uptoBulkAll ds ≤ 1048576)
def OpenSpec.upto (s : _root_.Go.ChangeSpec) : _root_.Go.OpenSpec := { _root_.Go.OpenSpec.ofChange s with cond := some uptoSmall }

/-- 'strainerlaw13.PolicyFirst', WHERE WHAT IT READS IS OF BULK AT MOST 1048576: true; the input reads as it did. -/
def policyFirstUptoRow : OpenClaim := { program := "ytghlodpbbghcoaagreatdoor", sum := "6073e6a18e0ced8229012be1d18e8be6f24e4beaf7aca56b4f67ff95716acd11", func := "strainer/strainerlaw13.PolicyFirst", spec := "policyFirst", inPlace := ["internal/bytealg.IndexByteString"], unfollowed := true, recurses := true, named := ["math/bits.deBruijn64tab"], plainKeys := false, apart := false, laid := [("math/bits.deBruijn64tab", laid_math_bits_deBruijn64tab)], narrowed := true }
def PolicyFirstUptoSaid : Prop := policyFirstUptoRow.holds Tryz.pinned (OpenSpec.upto policyFirstSpec)

/-- 'strainerlaw13.PolicyInside', WHERE WHAT IT READS IS OF BULK AT MOST 1048576: true; the input reads as it did. -/
def policyInsideUptoRow : OpenClaim := { program := "ytghlodpbbghcoaagreatdoor", sum := "6073e6a18e0ced8229012be1d18e8be6f24e4beaf7aca56b4f67ff95716acd11", func := "strainer/strainerlaw13.PolicyInside", spec := "policyInside", inPlace := ["internal/bytealg.IndexByteString"], unfollowed := true, recurses := true, named := ["math/bits.deBruijn64tab"], loops := true, plainKeys := false, apart := false, laid := [("math/bits.deBruijn64tab", laid_math_bits_deBruijn64tab)], narrowed := true }
def PolicyInsideUptoSaid : Prop := policyInsideUptoRow.holds Tryz.pinned (OpenSpec.upto policyInsideSpec)

/-- 'strainerlaw13.PolicyTop', WHERE WHAT IT READS IS OF BULK AT MOST 1048576: true; the input reads as it did. -/
def policyTopUptoRow : OpenClaim := { program := "ytghlodpbbghcoaagreatdoor", sum := "6073e6a18e0ced8229012be1d18e8be6f24e4beaf7aca56b4f67ff95716acd11", func := "strainer/strainerlaw13.PolicyTop", spec := "policyTop", inPlace := ["internal/bytealg.IndexByteString"], unfollowed := true, recurses := true, named := ["math/bits.deBruijn64tab"], loops := true, plainKeys := false, apart := false, laid := [("math/bits.deBruijn64tab", laid_math_bits_deBruijn64tab)], narrowed := true }
def PolicyTopUptoSaid : Prop := policyTopUptoRow.holds Tryz.pinned (OpenSpec.upto policyTopSpec)

/-- 'strainerlaw14.RulesItems', WHERE WHAT IT READS IS OF BULK AT MOST 1048576: true; the input reads as it did. -/
def rulesItemsUptoRow : OpenClaim := { program := "ytghlodpbbghcoaagreatdoor", sum := "6073e6a18e0ced8229012be1d18e8be6f24e4beaf7aca56b4f67ff95716acd11", func := "strainer/strainerlaw14.RulesItems", spec := "rulesItems", inPlace := ["internal/bytealg.IndexByteString"], unfollowed := true, recurses := true, named := ["math/bits.deBruijn64tab"], plainKeys := false, apart := false, laid := [("math/bits.deBruijn64tab", laid_math_bits_deBruijn64tab)], narrowed := true }
def RulesItemsUptoSaid : Prop := rulesItemsUptoRow.holds Tryz.pinned (OpenSpec.upto rulesItemsSpec)

/-- 'strainerlaw14.RulesQuotes', WHERE WHAT IT READS IS OF BULK AT MOST 1048576: true; the input reads as it did. -/
def rulesQuotesUptoRow : OpenClaim := { program := "ytghlodpbbghcoaagreatdoor", sum := "6073e6a18e0ced8229012be1d18e8be6f24e4beaf7aca56b4f67ff95716acd11", func := "strainer/strainerlaw14.RulesQuotes", spec := "rulesQuotes", inPlace := ["internal/bytealg.IndexByteString"], unfollowed := true, recurses := true, named := ["math/bits.deBruijn64tab"], plainKeys := false, apart := false, laid := [("math/bits.deBruijn64tab", laid_math_bits_deBruijn64tab)], narrowed := true }
def RulesQuotesUptoSaid : Prop := rulesQuotesUptoRow.holds Tryz.pinned (OpenSpec.upto rulesQuotesSpec)

/-- 'strainerlaw14.RulesPrints', WHERE WHAT IT READS IS OF BULK AT MOST 1048576: true; the input reads as it did. -/
def rulesPrintsUptoRow : OpenClaim := { program := "ytghlodpbbghcoaagreatdoor", sum := "6073e6a18e0ced8229012be1d18e8be6f24e4beaf7aca56b4f67ff95716acd11", func := "strainer/strainerlaw14.RulesPrints", spec := "rulesPrints", inPlace := ["internal/bytealg.IndexByteString"], unfollowed := true, recurses := true, named := ["math/bits.deBruijn64tab"], plainKeys := false, apart := false, laid := [("math/bits.deBruijn64tab", laid_math_bits_deBruijn64tab)], narrowed := true }
def RulesPrintsUptoSaid : Prop := rulesPrintsUptoRow.holds Tryz.pinned (OpenSpec.upto rulesPrintsSpec)

/-- 'strainerlaw14.RulesLines', WHERE WHAT IT READS IS OF BULK AT MOST 1048576: true; the input reads as it did. -/
def rulesLinesUptoRow : OpenClaim := { program := "ytghlodpbbghcoaagreatdoor", sum := "6073e6a18e0ced8229012be1d18e8be6f24e4beaf7aca56b4f67ff95716acd11", func := "strainer/strainerlaw14.RulesLines", spec := "rulesLines", inPlace := ["internal/bytealg.IndexByteString"], unfollowed := true, recurses := true, named := ["math/bits.deBruijn64tab"], plainKeys := false, apart := false, laid := [("math/bits.deBruijn64tab", laid_math_bits_deBruijn64tab)], narrowed := true }
def RulesLinesUptoSaid : Prop := rulesLinesUptoRow.holds Tryz.pinned (OpenSpec.upto rulesLinesSpec)

end Rows
end Go.Proofs.YtghlodpbbghcoaaGreatDoor
