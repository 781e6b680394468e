/-
  DERIVED. GIVEN WITH THE SEED: THE CARDS: each row of YtgdcdkgmeomhpaaGreatDoorRows.lean that lists a variable, with what it lists TIED to the program's text (the seventh form; the later family's looks); each row that meets fmt, with fmt's text TOLD by the authors' own Lean function (tested against real Go, not proved from fmt's source: count such statements apart). THE CARD IS WHAT COUNTS. Prove the row's statement (the work); the ties are given (YtgdcdkgmeomhpaaGreatDoorTie.lean); close each card by the builder's one call (the guide's Derived/Test/ToyasCard.lean, 'card_holds'). Laid BY PROGRAM, IN A SANDBOX (cutbox-door.mjs). By AI agents, Wed Nov 11 2026. No macro, syntax, notation, axiom, sorry.
-/
import Derived.Test.YtgdcdkgmeomhpaaGreatDoorRows
import GoSem.ClaimSeven
namespace Go.Proofs.YtgdcdkgmeomhpaaGreatDoor
namespace Rows

/-- THE TIED CARD OF 'feedvaultlaw11.JsonvalueMatchesReference'. -/
def jsonvalueMatchesReferenceCard : Claim7 := { stood := { row := jsonvalueMatchesReferenceRow, standIns := [], harness := (true, "c3f5a6a9bd9ab29e60a9a81d36d2f08af5b4463ab56fa5ea78a7045cfeadc5d0"), looks := true }, kinds := [], alts := [], laidByText := true, laidKinds := [.data, .data, .data, .data, .sentinel, .sentinel, .data, .pinned], laidTests := true, laidLooks := .later }
def JsonvalueMatchesReferenceCardSaid : Prop := Claim7.holds Tryz.pinned (.plain (OpenSpec.ofChange jsonvalueMatchesReferenceSpec)) jsonvalueMatchesReferenceCard

/-- THE TIED CARD OF 'feedvaultlaw11.JsonvalueSpaces'. -/
def jsonvalueSpacesCard : Claim7 := { stood := { row := jsonvalueSpacesRow, standIns := [], harness := (true, "c3f5a6a9bd9ab29e60a9a81d36d2f08af5b4463ab56fa5ea78a7045cfeadc5d0"), looks := true }, kinds := [], alts := [], laidByText := true, laidKinds := [.data, .data, .data, .data, .sentinel, .sentinel, .data, .pinned], laidTests := true, laidLooks := .later }
def JsonvalueSpacesCardSaid : Prop := Claim7.holds Tryz.pinned (.plain (OpenSpec.ofChange jsonvalueSpacesSpec)) jsonvalueSpacesCard

/-- THE SECOND FORM's CARD OF 'feedvaultlaw11.JsonvalueMatchesReference'. -/
def jsonvalueMatchesReferenceUptoCard : Claim7 := { stood := { row := jsonvalueMatchesReferenceUptoRow, standIns := [], harness := (true, "c3f5a6a9bd9ab29e60a9a81d36d2f08af5b4463ab56fa5ea78a7045cfeadc5d0"), looks := true }, kinds := [], alts := [], laidByText := true, laidKinds := [.data, .data, .data, .data, .sentinel, .sentinel, .data, .pinned], laidTests := true, laidLooks := .later }
def JsonvalueMatchesReferenceUptoCardSaid : Prop := Claim7.holds Tryz.pinned (.plain (OpenSpec.upto jsonvalueMatchesReferenceSpec)) jsonvalueMatchesReferenceUptoCard

/-- THE SECOND FORM's CARD OF 'feedvaultlaw11.JsonvalueSpaces'. -/
def jsonvalueSpacesUptoCard : Claim7 := { stood := { row := jsonvalueSpacesUptoRow, standIns := [], harness := (true, "c3f5a6a9bd9ab29e60a9a81d36d2f08af5b4463ab56fa5ea78a7045cfeadc5d0"), looks := true }, kinds := [], alts := [], laidByText := true, laidKinds := [.data, .data, .data, .data, .sentinel, .sentinel, .data, .pinned], laidTests := true, laidLooks := .later }
def JsonvalueSpacesUptoCardSaid : Prop := Claim7.holds Tryz.pinned (.plain (OpenSpec.upto jsonvalueSpacesSpec)) jsonvalueSpacesUptoCard
end Rows
end Go.Proofs.YtgdcdkgmeomhpaaGreatDoor
