/-
  No cell of these rows narrows 'for every input' (looked for: loops, veiled, ifaces, maps, wideKeys, modest, calm, conditions, laid).
  DERIVED. THE GIVEN ROWS OF THIS SEAT. 11 by the template 'for every input the law returns true; each argument reads behind the call as it read before'; 0 by the template 'total and deterministic' (their statements: YtaefhfldgemcnaaTotals.lean).
  GIVEN WITH THE SEED: the statements are not yours to turn. If you find one false, say at which input.
  Laid BY PROGRAM, IN A SANDBOX (cutbox-rows.mjs): the forced cells as the released guide's own fill.sh prints them over the translation a12f365e38e09379… (all of the seat's roots in one cut). By AI agents, Wed Nov 11 2026. No macro, syntax, notation, axiom, sorry.
-/
import Derived.Test.YtaefhfldgemcnaaChecked
import GoSem.Claim
import GoSem.ClaimJoined
import GoSem.ClaimMapViews
import Derived.JoinedTies
import Derived.KernelRfl
namespace Go.Proofs.Ytaefhfldgemcnaa
/- THE CELL 'sum', in the pinned program and in every row, IS THE sha256 OF THE DUMP (.gsa) THAT YtaefhfldgemcnaaProg.lean LOADS. Nothing in Lean hashes anything: it is a label: what it is worth is what the hold of that sum in a sandbox is worth. -/
noncomputable def Try.pinned : Pinned := { name := "ytaefhfldgemcnaa", sum := "a12f365e38e093799a2ade5c8b667b7172d7008a4b9c4b4272a692a5bd563106", checked := Try.checked }
namespace Rows
def none {H : Type} : Left H := { results := [], args := [] }

/-- 'strainerlaw10.NfaMay': WHATEVER THE INPUT: true; the input reads as it did. -/
def nfaMaySpec : ChangeSpec := { name := "nfaMay", fn := fun _ => fun
  | [d] => { results := [.lit (.bool true)], args := [d] }
  | _ => none }
def nfaMayRow : OpenClaim := { program := "ytaefhfldgemcnaa", sum := "a12f365e38e093799a2ade5c8b667b7172d7008a4b9c4b4272a692a5bd563106", func := "strainer/strainerlaw10.NfaMay", spec := "nfaMay", unfollowed := true, recurses := true, apart := false }
def NfaMaySaid : Prop := nfaMayRow.holds Try.pinned (OpenSpec.ofChange nfaMaySpec)

/-- ITS FALSE NEIGHBOUR: 'it returns false'. Refute it at one input. -/
def nfaMayWrong : ChangeSpec := { name := "nfaMay", fn := fun _ => fun
  | [d] => { results := [.lit (.bool false)], args := [d] }
  | _ => none }
def NfaMayWrongFalsely : Prop := nfaMayRow.holds Try.pinned (OpenSpec.ofChange nfaMayWrong)

/-- 'strainerlaw10.NfaAccepts': WHATEVER THE INPUT: true; the input reads as it did. -/
def nfaAcceptsSpec : ChangeSpec := { name := "nfaAccepts", fn := fun _ => fun
  | [d1, d2] => { results := [.lit (.bool true)], args := [d1, d2] }
  | _ => none }
def nfaAcceptsRow : OpenClaim := { program := "ytaefhfldgemcnaa", sum := "a12f365e38e093799a2ade5c8b667b7172d7008a4b9c4b4272a692a5bd563106", func := "strainer/strainerlaw10.NfaAccepts", spec := "nfaAccepts", unfollowed := true, recurses := true, apart := false }
def NfaAcceptsSaid : Prop := nfaAcceptsRow.holds Try.pinned (OpenSpec.ofChange nfaAcceptsSpec)

/-- ITS FALSE NEIGHBOUR: 'it returns false'. Refute it at one input. -/
def nfaAcceptsWrong : ChangeSpec := { name := "nfaAccepts", fn := fun _ => fun
  | [d1, d2] => { results := [.lit (.bool false)], args := [d1, d2] }
  | _ => none }
def NfaAcceptsWrongFalsely : Prop := nfaAcceptsRow.holds Try.pinned (OpenSpec.ofChange nfaAcceptsWrong)

/-- 'strainerlaw10.NfaAlone': WHATEVER THE INPUT: true; the input reads as it did. -/
def nfaAloneSpec : ChangeSpec := { name := "nfaAlone", fn := fun _ => fun
  | [d1, d2] => { results := [.lit (.bool true)], args := [d1, d2] }
  | _ => none }
def nfaAloneRow : OpenClaim := { program := "ytaefhfldgemcnaa", sum := "a12f365e38e093799a2ade5c8b667b7172d7008a4b9c4b4272a692a5bd563106", func := "strainer/strainerlaw10.NfaAlone", spec := "nfaAlone", unfollowed := true, recurses := true, apart := false }
def NfaAloneSaid : Prop := nfaAloneRow.holds Try.pinned (OpenSpec.ofChange nfaAloneSpec)

/-- ITS FALSE NEIGHBOUR: 'it returns false'. Refute it at one input. -/
def nfaAloneWrong : ChangeSpec := { name := "nfaAlone", fn := fun _ => fun
  | [d1, d2] => { results := [.lit (.bool false)], args := [d1, d2] }
  | _ => none }
def NfaAloneWrongFalsely : Prop := nfaAloneRow.holds Try.pinned (OpenSpec.ofChange nfaAloneWrong)

/-- 'strainerlaw10.NfaBack': WHATEVER THE INPUT: true; the input reads as it did. -/
def nfaBackSpec : ChangeSpec := { name := "nfaBack", fn := fun _ => fun
  | [d1, d2] => { results := [.lit (.bool true)], args := [d1, d2] }
  | _ => none }
def nfaBackRow : OpenClaim := { program := "ytaefhfldgemcnaa", sum := "a12f365e38e093799a2ade5c8b667b7172d7008a4b9c4b4272a692a5bd563106", func := "strainer/strainerlaw10.NfaBack", spec := "nfaBack", unfollowed := true, recurses := true, apart := false }
def NfaBackSaid : Prop := nfaBackRow.holds Try.pinned (OpenSpec.ofChange nfaBackSpec)

/-- ITS FALSE NEIGHBOUR: 'it returns false'. Refute it at one input. -/
def nfaBackWrong : ChangeSpec := { name := "nfaBack", fn := fun _ => fun
  | [d1, d2] => { results := [.lit (.bool false)], args := [d1, d2] }
  | _ => none }
def NfaBackWrongFalsely : Prop := nfaBackRow.holds Try.pinned (OpenSpec.ofChange nfaBackWrong)

/-- 'strainerlaw10.NfaSteps': WHATEVER THE INPUT: true; the input reads as it did. -/
def nfaStepsSpec : ChangeSpec := { name := "nfaSteps", fn := fun _ => fun
  | [d1, d2, d3] => { results := [.lit (.bool true)], args := [d1, d2, d3] }
  | _ => none }
def nfaStepsRow : OpenClaim := { program := "ytaefhfldgemcnaa", sum := "a12f365e38e093799a2ade5c8b667b7172d7008a4b9c4b4272a692a5bd563106", func := "strainer/strainerlaw10.NfaSteps", spec := "nfaSteps", unfollowed := true, recurses := true, apart := false }
def NfaStepsSaid : Prop := nfaStepsRow.holds Try.pinned (OpenSpec.ofChange nfaStepsSpec)

/-- ITS FALSE NEIGHBOUR: 'it returns false'. Refute it at one input. -/
def nfaStepsWrong : ChangeSpec := { name := "nfaSteps", fn := fun _ => fun
  | [d1, d2, d3] => { results := [.lit (.bool false)], args := [d1, d2, d3] }
  | _ => none }
def NfaStepsWrongFalsely : Prop := nfaStepsRow.holds Try.pinned (OpenSpec.ofChange nfaStepsWrong)

/-- 'strainerlaw09.RegexMatches': WHATEVER THE INPUT: true; the input reads as it did. -/
def regexMatchesSpec : ChangeSpec := { name := "regexMatches", fn := fun _ => fun
  | [d1, d2] => { results := [.lit (.bool true)], args := [d1, d2] }
  | _ => none }
def regexMatchesRow : OpenClaim := { program := "ytaefhfldgemcnaa", sum := "a12f365e38e093799a2ade5c8b667b7172d7008a4b9c4b4272a692a5bd563106", func := "strainer/strainerlaw09.RegexMatches", spec := "regexMatches", inPlace := ["internal/bytealg.IndexByteString"], unfollowed := true, recurses := true, apart := false }
def RegexMatchesSaid : Prop := regexMatchesRow.holds Try.pinned (OpenSpec.ofChange regexMatchesSpec)

/-- ITS FALSE NEIGHBOUR: 'it returns false'. Refute it at one input. -/
def regexMatchesWrong : ChangeSpec := { name := "regexMatches", fn := fun _ => fun
  | [d1, d2] => { results := [.lit (.bool false)], args := [d1, d2] }
  | _ => none }
def RegexMatchesWrongFalsely : Prop := regexMatchesRow.holds Try.pinned (OpenSpec.ofChange regexMatchesWrong)

/-- 'strainerlaw09.RegexPlain': WHATEVER THE INPUT: true; the input reads as it did. -/
def regexPlainSpec : ChangeSpec := { name := "regexPlain", fn := fun _ => fun
  | [d1, d2] => { results := [.lit (.bool true)], args := [d1, d2] }
  | _ => none }
def regexPlainRow : OpenClaim := { program := "ytaefhfldgemcnaa", sum := "a12f365e38e093799a2ade5c8b667b7172d7008a4b9c4b4272a692a5bd563106", func := "strainer/strainerlaw09.RegexPlain", spec := "regexPlain", inPlace := ["internal/bytealg.IndexByteString"], unfollowed := true, recurses := true, apart := false }
def RegexPlainSaid : Prop := regexPlainRow.holds Try.pinned (OpenSpec.ofChange regexPlainSpec)

/-- ITS FALSE NEIGHBOUR: 'it returns false'. Refute it at one input. -/
def regexPlainWrong : ChangeSpec := { name := "regexPlain", fn := fun _ => fun
  | [d1, d2] => { results := [.lit (.bool false)], args := [d1, d2] }
  | _ => none }
def RegexPlainWrongFalsely : Prop := regexPlainRow.holds Try.pinned (OpenSpec.ofChange regexPlainWrong)

/-- 'strainerlaw09.RegexMany': WHATEVER THE INPUT: true; the input reads as it did. -/
def regexManySpec : ChangeSpec := { name := "regexMany", fn := fun _ => fun
  | [d1, d2] => { results := [.lit (.bool true)], args := [d1, d2] }
  | _ => none }
def regexManyRow : OpenClaim := { program := "ytaefhfldgemcnaa", sum := "a12f365e38e093799a2ade5c8b667b7172d7008a4b9c4b4272a692a5bd563106", func := "strainer/strainerlaw09.RegexMany", spec := "regexMany", inPlace := ["internal/bytealg.IndexByteString"], unfollowed := true, recurses := true, apart := false }
def RegexManySaid : Prop := regexManyRow.holds Try.pinned (OpenSpec.ofChange regexManySpec)

/-- ITS FALSE NEIGHBOUR: 'it returns false'. Refute it at one input. -/
def regexManyWrong : ChangeSpec := { name := "regexMany", fn := fun _ => fun
  | [d1, d2] => { results := [.lit (.bool false)], args := [d1, d2] }
  | _ => none }
def RegexManyWrongFalsely : Prop := regexManyRow.holds Try.pinned (OpenSpec.ofChange regexManyWrong)

/-- 'strainerlaw09.RegexJoins': WHATEVER THE INPUT: true; the input reads as it did. -/
def regexJoinsSpec : ChangeSpec := { name := "regexJoins", fn := fun _ => fun
  | [d1, d2, d3, d4] => { results := [.lit (.bool true)], args := [d1, d2, d3, d4] }
  | _ => none }
def regexJoinsRow : OpenClaim := { program := "ytaefhfldgemcnaa", sum := "a12f365e38e093799a2ade5c8b667b7172d7008a4b9c4b4272a692a5bd563106", func := "strainer/strainerlaw09.RegexJoins", spec := "regexJoins", inPlace := ["internal/bytealg.IndexByteString"], unfollowed := true, recurses := true, apart := false }
def RegexJoinsSaid : Prop := regexJoinsRow.holds Try.pinned (OpenSpec.ofChange regexJoinsSpec)

/-- ITS FALSE NEIGHBOUR: 'it returns false'. Refute it at one input. -/
def regexJoinsWrong : ChangeSpec := { name := "regexJoins", fn := fun _ => fun
  | [d1, d2, d3, d4] => { results := [.lit (.bool false)], args := [d1, d2, d3, d4] }
  | _ => none }
def RegexJoinsWrongFalsely : Prop := regexJoinsRow.holds Try.pinned (OpenSpec.ofChange regexJoinsWrong)

/-- 'strainerlaw09.RegexPrints': WHATEVER THE INPUT: true; the input reads as it did. -/
def regexPrintsSpec : ChangeSpec := { name := "regexPrints", fn := fun _ => fun
  | [d1, d2] => { results := [.lit (.bool true)], args := [d1, d2] }
  | _ => none }
def regexPrintsRow : OpenClaim := { program := "ytaefhfldgemcnaa", sum := "a12f365e38e093799a2ade5c8b667b7172d7008a4b9c4b4272a692a5bd563106", func := "strainer/strainerlaw09.RegexPrints", spec := "regexPrints", inPlace := ["internal/bytealg.IndexByteString"], unfollowed := true, recurses := true, apart := false }
def RegexPrintsSaid : Prop := regexPrintsRow.holds Try.pinned (OpenSpec.ofChange regexPrintsSpec)

/-- ITS FALSE NEIGHBOUR: 'it returns false'. Refute it at one input. -/
def regexPrintsWrong : ChangeSpec := { name := "regexPrints", fn := fun _ => fun
  | [d1, d2] => { results := [.lit (.bool false)], args := [d1, d2] }
  | _ => none }
def RegexPrintsWrongFalsely : Prop := regexPrintsRow.holds Try.pinned (OpenSpec.ofChange regexPrintsWrong)

/-- 'strainerlaw10.NfaRegex': WHATEVER THE INPUT: true; the input reads as it did. -/
def nfaRegexSpec : ChangeSpec := { name := "nfaRegex", fn := fun _ => fun
  | [d1, d2] => { results := [.lit (.bool true)], args := [d1, d2] }
  | _ => none }
def nfaRegexRow : OpenClaim := { program := "ytaefhfldgemcnaa", sum := "a12f365e38e093799a2ade5c8b667b7172d7008a4b9c4b4272a692a5bd563106", func := "strainer/strainerlaw10.NfaRegex", spec := "nfaRegex", inPlace := ["internal/bytealg.IndexByteString"], unfollowed := true, recurses := true, apart := false }
def NfaRegexSaid : Prop := nfaRegexRow.holds Try.pinned (OpenSpec.ofChange nfaRegexSpec)

/-- ITS FALSE NEIGHBOUR: 'it returns false'. Refute it at one input. -/
def nfaRegexWrong : ChangeSpec := { name := "nfaRegex", fn := fun _ => fun
  | [d1, d2] => { results := [.lit (.bool false)], args := [d1, d2] }
  | _ => none }
def NfaRegexWrongFalsely : Prop := nfaRegexRow.holds Try.pinned (OpenSpec.ofChange nfaRegexWrong)

/- THE SECOND FORM. 'bulk': how many values and letters a reading holds, each counted each time it is reached (what is shared counts as often as it is met; a slice's spare places count too). A statement '..UptoSaid' is the law's where the arguments, and the package variables that the reading takes, are together of bulk at most 1048576: NARROWER than '..Said'. Prove '..Said' where nothing that the law and all that it calls make is longer than what came in: it says more and counts as full. Else prove '..UptoSaid'. A law counts once. -/
mutual
def uptoBulk {H : Type} : DataW H → Nat
  | .lit (.string bytes) => bytes.length + 1
  | .lit _ => 1
  | .nil => 1
  | .ptr d => uptoBulk d + 1
  | .slice elems spare => uptoBulkAll elems + uptoBulkAll spare + 1
  | .agg parts => uptoBulkAll parts + 1
  | .iface _ d => uptoBulk d + 1
  | .map entries => uptoBulkEntries entries + 1
  | .held _ => 1
def uptoBulkAll {H : Type} : List (DataW H) → Nat
  | [] => 0
  | d :: r => uptoBulk d + uptoBulkAll r
def uptoBulkEntries {H : Type} : List (Lit × DataW H) → Nat
  | [] => 0
  | x :: r => uptoBulkEntry x + uptoBulkEntries r
def uptoBulkEntry {H : Type} : Lit × DataW H → Nat
  | (.string bytes, d) => bytes.length + uptoBulk d + 1
  | (_, d) => uptoBulk d + 1
 end
def uptoSmall : (H : Type) → List (DataW H) → Bool := fun _ ds => decide (uptoBulkAll ds ≤ 1048576)
def OpenSpec.upto (s : _root_.Go.ChangeSpec) : _root_.Go.OpenSpec := { _root_.Go.OpenSpec.ofChange s with cond := some uptoSmall }

/-- 'strainerlaw10.NfaMay', WHERE WHAT IT READS IS OF BULK AT MOST 1048576: true; the input reads as it did. -/
def nfaMayUptoRow : OpenClaim := { program := "ytaefhfldgemcnaa", sum := "a12f365e38e093799a2ade5c8b667b7172d7008a4b9c4b4272a692a5bd563106", func := "strainer/strainerlaw10.NfaMay", spec := "nfaMay", unfollowed := true, recurses := true, apart := false, narrowed := true }
def NfaMayUptoSaid : Prop := nfaMayUptoRow.holds Try.pinned (OpenSpec.upto nfaMaySpec)

/-- 'strainerlaw10.NfaAccepts', WHERE WHAT IT READS IS OF BULK AT MOST 1048576: true; the input reads as it did. -/
def nfaAcceptsUptoRow : OpenClaim := { program := "ytaefhfldgemcnaa", sum := "a12f365e38e093799a2ade5c8b667b7172d7008a4b9c4b4272a692a5bd563106", func := "strainer/strainerlaw10.NfaAccepts", spec := "nfaAccepts", unfollowed := true, recurses := true, apart := false, narrowed := true }
def NfaAcceptsUptoSaid : Prop := nfaAcceptsUptoRow.holds Try.pinned (OpenSpec.upto nfaAcceptsSpec)

/-- 'strainerlaw10.NfaAlone', WHERE WHAT IT READS IS OF BULK AT MOST 1048576: true; the input reads as it did. -/
def nfaAloneUptoRow : OpenClaim := { program := "ytaefhfldgemcnaa", sum := "a12f365e38e093799a2ade5c8b667b7172d7008a4b9c4b4272a692a5bd563106", func := "strainer/strainerlaw10.NfaAlone", spec := "nfaAlone", unfollowed := true, recurses := true, apart := false, narrowed := true }
def NfaAloneUptoSaid : Prop := nfaAloneUptoRow.holds Try.pinned (OpenSpec.upto nfaAloneSpec)

/-- 'strainerlaw10.NfaBack', WHERE WHAT IT READS IS OF BULK AT MOST 1048576: true; the input reads as it did. -/
def nfaBackUptoRow : OpenClaim := { program := "ytaefhfldgemcnaa", sum := "a12f365e38e093799a2ade5c8b667b7172d7008a4b9c4b4272a692a5bd563106", func := "strainer/strainerlaw10.NfaBack", spec := "nfaBack", unfollowed := true, recurses := true, apart := false, narrowed := true }
def NfaBackUptoSaid : Prop := nfaBackUptoRow.holds Try.pinned (OpenSpec.upto nfaBackSpec)

/-- 'strainerlaw10.NfaSteps', WHERE WHAT IT READS IS OF BULK AT MOST 1048576: true; the input reads as it did. -/
def nfaStepsUptoRow : OpenClaim := { program := "ytaefhfldgemcnaa", sum := "a12f365e38e093799a2ade5c8b667b7172d7008a4b9c4b4272a692a5bd563106", func := "strainer/strainerlaw10.NfaSteps", spec := "nfaSteps", unfollowed := true, recurses := true, apart := false, narrowed := true }
def NfaStepsUptoSaid : Prop := nfaStepsUptoRow.holds Try.pinned (OpenSpec.upto nfaStepsSpec)

/-- 'strainerlaw09.RegexMatches', WHERE WHAT IT READS IS OF BULK AT MOST 1048576: true; the input reads as it did. -/
def regexMatchesUptoRow : OpenClaim := { program := "ytaefhfldgemcnaa", sum := "a12f365e38e093799a2ade5c8b667b7172d7008a4b9c4b4272a692a5bd563106", func := "strainer/strainerlaw09.RegexMatches", spec := "regexMatches", inPlace := ["internal/bytealg.IndexByteString"], unfollowed := true, recurses := true, apart := false, narrowed := true }
def RegexMatchesUptoSaid : Prop := regexMatchesUptoRow.holds Try.pinned (OpenSpec.upto regexMatchesSpec)

/-- 'strainerlaw09.RegexPlain', WHERE WHAT IT READS IS OF BULK AT MOST 1048576: true; the input reads as it did. -/
def regexPlainUptoRow : OpenClaim := { program := "ytaefhfldgemcnaa", sum := "a12f365e38e093799a2ade5c8b667b7172d7008a4b9c4b4272a692a5bd563106", func := "strainer/strainerlaw09.RegexPlain", spec := "regexPlain", inPlace := ["internal/bytealg.IndexByteString"], unfollowed := true, recurses := true, apart := false, narrowed := true }
def RegexPlainUptoSaid : Prop := regexPlainUptoRow.holds Try.pinned (OpenSpec.upto regexPlainSpec)

/-- 'strainerlaw09.RegexMany', WHERE WHAT IT READS IS OF BULK AT MOST 1048576: true; the input reads as it did. -/
def regexManyUptoRow : OpenClaim := { program := "ytaefhfldgemcnaa", sum := "a12f365e38e093799a2ade5c8b667b7172d7008a4b9c4b4272a692a5bd563106", func := "strainer/strainerlaw09.RegexMany", spec := "regexMany", inPlace := ["internal/bytealg.IndexByteString"], unfollowed := true, recurses := true, apart := false, narrowed := true }
def RegexManyUptoSaid : Prop := regexManyUptoRow.holds Try.pinned (OpenSpec.upto regexManySpec)

/-- 'strainerlaw09.RegexJoins', WHERE WHAT IT READS IS OF BULK AT MOST 1048576: true; the input reads as it did. -/
def regexJoinsUptoRow : OpenClaim := { program := "ytaefhfldgemcnaa", sum := "a12f365e38e093799a2ade5c8b667b7172d7008a4b9c4b4272a692a5bd563106", func := "strainer/strainerlaw09.RegexJoins", spec := "regexJoins", inPlace := ["internal/bytealg.IndexByteString"], unfollowed := true, recurses := true, apart := false, narrowed := true }
def RegexJoinsUptoSaid : Prop := regexJoinsUptoRow.holds Try.pinned (OpenSpec.upto regexJoinsSpec)

/-- 'strainerlaw09.RegexPrints', WHERE WHAT IT READS IS OF BULK AT MOST 1048576: true; the input reads as it did. -/
def regexPrintsUptoRow : OpenClaim := { program := "ytaefhfldgemcnaa", sum := "a12f365e38e093799a2ade5c8b667b7172d7008a4b9c4b4272a692a5bd563106", func := "strainer/strainerlaw09.RegexPrints", spec := "regexPrints", inPlace := ["internal/bytealg.IndexByteString"], unfollowed := true, recurses := true, apart := false, narrowed := true }
def RegexPrintsUptoSaid : Prop := regexPrintsUptoRow.holds Try.pinned (OpenSpec.upto regexPrintsSpec)

/-- 'strainerlaw10.NfaRegex', WHERE WHAT IT READS IS OF BULK AT MOST 1048576: true; the input reads as it did. -/
def nfaRegexUptoRow : OpenClaim := { program := "ytaefhfldgemcnaa", sum := "a12f365e38e093799a2ade5c8b667b7172d7008a4b9c4b4272a692a5bd563106", func := "strainer/strainerlaw10.NfaRegex", spec := "nfaRegex", inPlace := ["internal/bytealg.IndexByteString"], unfollowed := true, recurses := true, apart := false, narrowed := true }
def NfaRegexUptoSaid : Prop := nfaRegexUptoRow.holds Try.pinned (OpenSpec.upto nfaRegexSpec)

end Rows
end Go.Proofs.Ytaefhfldgemcnaa
