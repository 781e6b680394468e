/-
  DERIVED. GIVEN WITH THE SEED: THE CARDS: each row of YtgdcdkgmeomhpaaDoorRows.lean that lists a variable, with what it lists TIED to the program's text (the seventh form; the later family's looks); each row that meets fmt, with fmt's text TOLD by the authors' own Lean function (tested against real Go, not proved from fmt's source: count such statements apart). THE CARD IS WHAT COUNTS. Prove the row's statement (the work); the ties are given (YtgdcdkgmeomhpaaDoorTie.lean); close each card by the builder's one call (the guide's Derived/Test/ToyasCard.lean, 'card_holds'). Laid BY PROGRAM, IN A SANDBOX (cutbox-door.mjs). By AI agents, Wed Nov 11 2026. No macro, syntax, notation, axiom, sorry.
-/
import Derived.Test.YtgdcdkgmeomhpaaDoorRows
import GoSem.ClaimSeven
namespace Go.Proofs.YtgdcdkgmeomhpaaDoor
namespace Rows

/-- THE TIED CARD OF 'feedvaultlaw11.JsonvalueFunctions'. -/
def jsonvalueFunctionsCard : Claim7 := { stood := { row := jsonvalueFunctionsRow, standIns := [], harness := (true, "96ebcd071a44423fa6172b6e05294c4e6cb951c42bcff84d9bdb0ef5f319f581"), looks := true }, kinds := [], alts := [], laidByText := true, laidKinds := [.data, .data, .data, .data, .sentinel, .sentinel, .data, .pinned], laidTests := true, laidLooks := .later }
def JsonvalueFunctionsCardSaid : Prop := Claim7.holds Tryd.pinned (.plain (OpenSpec.ofChange jsonvalueFunctionsSpec)) jsonvalueFunctionsCard

/-- THE TIED CARD OF 'feedvaultlaw11.JsonvalueNumbers'. -/
def jsonvalueNumbersCard : Claim7 := { stood := { row := jsonvalueNumbersRow, standIns := [], harness := (true, "96ebcd071a44423fa6172b6e05294c4e6cb951c42bcff84d9bdb0ef5f319f581"), looks := true }, kinds := [], alts := [], laidByText := true, laidKinds := [.data, .data, .data, .data, .sentinel, .sentinel, .data, .pinned], laidTests := true, laidLooks := .later }
def JsonvalueNumbersCardSaid : Prop := Claim7.holds Tryd.pinned (.plain (OpenSpec.ofChange jsonvalueNumbersSpec)) jsonvalueNumbersCard

/-- THE TIED CARD OF 'feedvaultlaw11.JsonvalueDepth'. -/
def jsonvalueDepthCard : Claim7 := { stood := { row := jsonvalueDepthRow, standIns := [], harness := (true, "96ebcd071a44423fa6172b6e05294c4e6cb951c42bcff84d9bdb0ef5f319f581"), looks := true }, kinds := [], alts := [], laidByText := true, laidKinds := [.data, .data, .data, .data, .sentinel, .sentinel, .data, .pinned], laidTests := true, laidLooks := .later }
def JsonvalueDepthCardSaid : Prop := Claim7.holds Tryd.pinned (.plain (OpenSpec.ofChange jsonvalueDepthSpec)) jsonvalueDepthCard

/-- THE SECOND FORM's CARD OF 'feedvaultlaw11.JsonvalueFunctions'. -/
def jsonvalueFunctionsUptoCard : Claim7 := { stood := { row := jsonvalueFunctionsUptoRow, standIns := [], harness := (true, "96ebcd071a44423fa6172b6e05294c4e6cb951c42bcff84d9bdb0ef5f319f581"), looks := true }, kinds := [], alts := [], laidByText := true, laidKinds := [.data, .data, .data, .data, .sentinel, .sentinel, .data, .pinned], laidTests := true, laidLooks := .later }
def JsonvalueFunctionsUptoCardSaid : Prop := Claim7.holds Tryd.pinned (.plain (OpenSpec.upto jsonvalueFunctionsSpec)) jsonvalueFunctionsUptoCard

/-- THE SECOND FORM's CARD OF 'feedvaultlaw11.JsonvalueNumbers'. -/
def jsonvalueNumbersUptoCard : Claim7 := { stood := { row := jsonvalueNumbersUptoRow, standIns := [], harness := (true, "96ebcd071a44423fa6172b6e05294c4e6cb951c42bcff84d9bdb0ef5f319f581"), looks := true }, kinds := [], alts := [], laidByText := true, laidKinds := [.data, .data, .data, .data, .sentinel, .sentinel, .data, .pinned], laidTests := true, laidLooks := .later }
def JsonvalueNumbersUptoCardSaid : Prop := Claim7.holds Tryd.pinned (.plain (OpenSpec.upto jsonvalueNumbersSpec)) jsonvalueNumbersUptoCard

/-- THE SECOND FORM's CARD OF 'feedvaultlaw11.JsonvalueDepth'. -/
def jsonvalueDepthUptoCard : Claim7 := { stood := { row := jsonvalueDepthUptoRow, standIns := [], harness := (true, "96ebcd071a44423fa6172b6e05294c4e6cb951c42bcff84d9bdb0ef5f319f581"), looks := true }, kinds := [], alts := [], laidByText := true, laidKinds := [.data, .data, .data, .data, .sentinel, .sentinel, .data, .pinned], laidTests := true, laidLooks := .later }
def JsonvalueDepthUptoCardSaid : Prop := Claim7.holds Tryd.pinned (.plain (OpenSpec.upto jsonvalueDepthSpec)) jsonvalueDepthUptoCard
end Rows
end Go.Proofs.YtgdcdkgmeomhpaaDoor
