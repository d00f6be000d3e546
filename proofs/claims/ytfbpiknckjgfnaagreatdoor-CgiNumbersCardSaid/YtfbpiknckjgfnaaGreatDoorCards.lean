/-
  DERIVED. GIVEN WITH THE SEED: THE CARDS: each row of YtfbpiknckjgfnaaGreatDoorRows.lean that lists a variable, with what it lists TIED to the program's text (the seventh form; the later family's looks); each row that meets fmt, with fmt's text TOLD by the authors' own Lean function (tested against real Go, not proved from fmt's source: count such statements apart). THE CARD IS WHAT COUNTS. Prove the row's statement (the work); the ties are given (YtfbpiknckjgfnaaGreatDoorTie.lean); close each card by the builder's one call (the guide's Derived/Test/ToyasCard.lean, 'card_holds'). Laid BY PROGRAM, IN A SANDBOX (cutbox-door.mjs). By AI agents, Wed Nov 11 2026. No macro, syntax, notation, axiom, sorry.
-/
import Derived.Test.YtfbpiknckjgfnaaGreatDoorRows
import GoSem.ClaimSeven
namespace Go.Proofs.YtfbpiknckjgfnaaGreatDoor
namespace Rows

/-- THE TIED CARD OF 'conduitlaw16.CgiCuts'. -/
def cgiCutsCard : Claim7 := { stood := { row := cgiCutsRow, standIns := [], harness := (true, "69f089e7811526d4254cfde06c30da3dea1d7a66549acaba5a6573f0a74a25b0"), looks := true }, kinds := [], alts := [], laidByText := true, laidKinds := [.data, .data, .data, .data, .handle, .sentinel, .sentinel, .pinned], laidTests := true, laidLooks := .later }
def CgiCutsCardSaid : Prop := Claim7.holds Tryz.pinned (.plain (OpenSpec.ofChange cgiCutsSpec)) cgiCutsCard

/-- THE TIED CARD OF 'conduitlaw16.CgiStatus'. -/
def cgiStatusCard : Claim7 := { stood := { row := cgiStatusRow, standIns := [], harness := (true, "69f089e7811526d4254cfde06c30da3dea1d7a66549acaba5a6573f0a74a25b0"), looks := true }, kinds := [], alts := [], laidByText := true, laidKinds := [.data, .data, .data, .data, .handle, .sentinel, .sentinel, .pinned], laidTests := true, laidLooks := .later }
def CgiStatusCardSaid : Prop := Claim7.holds Tryz.pinned (.plain (OpenSpec.ofChange cgiStatusSpec)) cgiStatusCard

/-- THE TIED CARD OF 'conduitlaw16.CgiNumbers'. -/
def cgiNumbersCard : Claim7 := { stood := { row := cgiNumbersRow, standIns := [], harness := (true, "69f089e7811526d4254cfde06c30da3dea1d7a66549acaba5a6573f0a74a25b0"), looks := true }, kinds := [], alts := [], laidByText := true, laidKinds := [.data, .data, .data, .data, .handle, .sentinel, .sentinel, .pinned], laidTests := true, laidLooks := .later }
def CgiNumbersCardSaid : Prop := Claim7.holds Tryz.pinned (.plain (OpenSpec.ofChange cgiNumbersSpec)) cgiNumbersCard

/-- THE SECOND FORM's CARD OF 'conduitlaw16.CgiCuts'. -/
def cgiCutsUptoCard : Claim7 := { stood := { row := cgiCutsUptoRow, standIns := [], harness := (true, "69f089e7811526d4254cfde06c30da3dea1d7a66549acaba5a6573f0a74a25b0"), looks := true }, kinds := [], alts := [], laidByText := true, laidKinds := [.data, .data, .data, .data, .handle, .sentinel, .sentinel, .pinned], laidTests := true, laidLooks := .later }
def CgiCutsUptoCardSaid : Prop := Claim7.holds Tryz.pinned (.plain (OpenSpec.upto cgiCutsSpec)) cgiCutsUptoCard

/-- THE SECOND FORM's CARD OF 'conduitlaw16.CgiStatus'. -/
def cgiStatusUptoCard : Claim7 := { stood := { row := cgiStatusUptoRow, standIns := [], harness := (true, "69f089e7811526d4254cfde06c30da3dea1d7a66549acaba5a6573f0a74a25b0"), looks := true }, kinds := [], alts := [], laidByText := true, laidKinds := [.data, .data, .data, .data, .handle, .sentinel, .sentinel, .pinned], laidTests := true, laidLooks := .later }
def CgiStatusUptoCardSaid : Prop := Claim7.holds Tryz.pinned (.plain (OpenSpec.upto cgiStatusSpec)) cgiStatusUptoCard

/-- THE SECOND FORM's CARD OF 'conduitlaw16.CgiNumbers'. -/
def cgiNumbersUptoCard : Claim7 := { stood := { row := cgiNumbersUptoRow, standIns := [], harness := (true, "69f089e7811526d4254cfde06c30da3dea1d7a66549acaba5a6573f0a74a25b0"), looks := true }, kinds := [], alts := [], laidByText := true, laidKinds := [.data, .data, .data, .data, .handle, .sentinel, .sentinel, .pinned], laidTests := true, laidLooks := .later }
def CgiNumbersUptoCardSaid : Prop := Claim7.holds Tryz.pinned (.plain (OpenSpec.upto cgiNumbersSpec)) cgiNumbersUptoCard
end Rows
end Go.Proofs.YtfbpiknckjgfnaaGreatDoor
