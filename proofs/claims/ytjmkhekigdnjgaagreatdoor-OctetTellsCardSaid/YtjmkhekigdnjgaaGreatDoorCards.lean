/-
  DERIVED. GIVEN WITH THE SEED: THE CARDS: each row of YtjmkhekigdnjgaaGreatDoorRows.lean that lists a variable, with what it lists TIED to the program's text (the seventh form; the later family's looks); each row that meets fmt, with fmt's text TOLD by the authors' own Lean function (tested against real Go, not proved from fmt's source: count such statements apart). THE CARD IS WHAT COUNTS. Prove the row's statement (the work); the ties are given (YtjmkhekigdnjgaaGreatDoorTie.lean); close each card by the builder's one call (the guide's Derived/Test/ToyasCard.lean, 'card_holds'). Laid BY PROGRAM, IN A SANDBOX (cutbox-door.mjs). By AI agents, Wed Nov 11 2026. No macro, syntax, notation, axiom, sorry.
-/
import Derived.Test.YtjmkhekigdnjgaaGreatDoorRows
import GoSem.ClaimSeven
namespace Go.Proofs.YtjmkhekigdnjgaaGreatDoor
namespace Rows

/-- THE TIED CARD OF 'conduitlaw1.OctetTells'. -/
def octetTellsCard : Claim7 := { stood := { row := octetTellsRow, standIns := [], harness := (true, "a4575920d2d53860e6d2d62774d5611a7b1a126b1600e432471106cf6ee2febd"), looks := true }, kinds := [], alts := [], laidByText := true, laidKinds := [.data, .data, .data, .data, .handle, .sentinel, .sentinel, .pinned], laidTests := true, laidLooks := .later }
def OctetTellsCardSaid : Prop := Claim7.holds Tryz.pinned (.plain (OpenSpec.ofChange octetTellsSpec)) octetTellsCard

/-- THE SECOND FORM's CARD OF 'conduitlaw1.OctetTells'. -/
def octetTellsUptoCard : Claim7 := { stood := { row := octetTellsUptoRow, standIns := [], harness := (true, "a4575920d2d53860e6d2d62774d5611a7b1a126b1600e432471106cf6ee2febd"), looks := true }, kinds := [], alts := [], laidByText := true, laidKinds := [.data, .data, .data, .data, .handle, .sentinel, .sentinel, .pinned], laidTests := true, laidLooks := .later }
def OctetTellsUptoCardSaid : Prop := Claim7.holds Tryz.pinned (.plain (OpenSpec.upto octetTellsSpec)) octetTellsUptoCard
end Rows
end Go.Proofs.YtjmkhekigdnjgaaGreatDoor
