/-
  DERIVED. GIVEN WITH THE SEED: THE CARDS: each row of YtjmkhekigdnjgaaDoorRows.lean that lists a variable, with what it lists TIED to the program's text (the seventh form; the later family's looks); each row that meets fmt, with fmt's text TOLD by the authors' own Lean function (tested against real Go, not proved from fmt's source: count such statements apart). THE CARD IS WHAT COUNTS. Prove the row's statement (the work); the ties are given (YtjmkhekigdnjgaaDoorTie.lean); close each card by the builder's one call (the guide's Derived/Test/ToyasCard.lean, 'card_holds'). Laid BY PROGRAM, IN A SANDBOX (cutbox-door.mjs). By AI agents, Wed Nov 11 2026. No macro, syntax, notation, axiom, sorry.
-/
import Derived.Test.YtjmkhekigdnjgaaDoorRows
import GoSem.ClaimSeven
namespace Go.Proofs.YtjmkhekigdnjgaaDoor
namespace Rows

/-- THE TIED CARD OF 'conduitlaw1.OctetBack'. -/
def octetBackCard : Claim7 := { stood := { row := octetBackRow, standIns := [], harness := (true, "b1137104efae0d356f4ef5ca1ac33b794e96fae3c60c212c9bf84759907e214f"), looks := true }, kinds := [], alts := [], laidByText := true, laidKinds := [.data, .data, .data, .data, .sentinel, .sentinel, .pinned], laidTests := true, laidLooks := .later }
def OctetBackCardSaid : Prop := Claim7.holds Tryd.pinned (.plain (OpenSpec.ofChange octetBackSpec)) octetBackCard

/-- THE TIED CARD OF 'conduitlaw1.OctetNumbers'. -/
def octetNumbersCard : Claim7 := { stood := { row := octetNumbersRow, standIns := [], harness := (true, "b1137104efae0d356f4ef5ca1ac33b794e96fae3c60c212c9bf84759907e214f"), looks := true }, kinds := [], alts := [], laidByText := true, laidKinds := [.data, .data, .data, .data, .sentinel, .sentinel, .pinned], laidTests := true, laidLooks := .later }
def OctetNumbersCardSaid : Prop := Claim7.holds Tryd.pinned (.plain (OpenSpec.ofChange octetNumbersSpec)) octetNumbersCard

/-- THE TIED CARD OF 'conduitlaw1.OctetLists'. -/
def octetListsCard : Claim7 := { stood := { row := octetListsRow, standIns := [], harness := (true, "b1137104efae0d356f4ef5ca1ac33b794e96fae3c60c212c9bf84759907e214f"), looks := true }, kinds := [], alts := [], laidByText := true, laidKinds := [.data, .data, .data, .data, .sentinel, .sentinel, .pinned], laidTests := true, laidLooks := .later }
def OctetListsCardSaid : Prop := Claim7.holds Tryd.pinned (.plain (OpenSpec.ofChange octetListsSpec)) octetListsCard

/-- THE TIED CARD OF 'conduitlaw1.OctetTokens'. -/
def octetTokensCard : Claim7 := { stood := { row := octetTokensRow, standIns := [], harness := (true, "b1137104efae0d356f4ef5ca1ac33b794e96fae3c60c212c9bf84759907e214f"), looks := true }, kinds := [], alts := [], laidByText := true, laidKinds := [.data, .data, .data, .data, .sentinel, .sentinel, .pinned], laidTests := true, laidLooks := .later }
def OctetTokensCardSaid : Prop := Claim7.holds Tryd.pinned (.plain (OpenSpec.ofChange octetTokensSpec)) octetTokensCard

/-- THE SECOND FORM's CARD OF 'conduitlaw1.OctetBack'. -/
def octetBackUptoCard : Claim7 := { stood := { row := octetBackUptoRow, standIns := [], harness := (true, "b1137104efae0d356f4ef5ca1ac33b794e96fae3c60c212c9bf84759907e214f"), looks := true }, kinds := [], alts := [], laidByText := true, laidKinds := [.data, .data, .data, .data, .sentinel, .sentinel, .pinned], laidTests := true, laidLooks := .later }
def OctetBackUptoCardSaid : Prop := Claim7.holds Tryd.pinned (.plain (OpenSpec.upto octetBackSpec)) octetBackUptoCard

/-- THE SECOND FORM's CARD OF 'conduitlaw1.OctetNumbers'. -/
def octetNumbersUptoCard : Claim7 := { stood := { row := octetNumbersUptoRow, standIns := [], harness := (true, "b1137104efae0d356f4ef5ca1ac33b794e96fae3c60c212c9bf84759907e214f"), looks := true }, kinds := [], alts := [], laidByText := true, laidKinds := [.data, .data, .data, .data, .sentinel, .sentinel, .pinned], laidTests := true, laidLooks := .later }
def OctetNumbersUptoCardSaid : Prop := Claim7.holds Tryd.pinned (.plain (OpenSpec.upto octetNumbersSpec)) octetNumbersUptoCard

/-- THE SECOND FORM's CARD OF 'conduitlaw1.OctetLists'. -/
def octetListsUptoCard : Claim7 := { stood := { row := octetListsUptoRow, standIns := [], harness := (true, "b1137104efae0d356f4ef5ca1ac33b794e96fae3c60c212c9bf84759907e214f"), looks := true }, kinds := [], alts := [], laidByText := true, laidKinds := [.data, .data, .data, .data, .sentinel, .sentinel, .pinned], laidTests := true, laidLooks := .later }
def OctetListsUptoCardSaid : Prop := Claim7.holds Tryd.pinned (.plain (OpenSpec.upto octetListsSpec)) octetListsUptoCard

/-- THE SECOND FORM's CARD OF 'conduitlaw1.OctetTokens'. -/
def octetTokensUptoCard : Claim7 := { stood := { row := octetTokensUptoRow, standIns := [], harness := (true, "b1137104efae0d356f4ef5ca1ac33b794e96fae3c60c212c9bf84759907e214f"), looks := true }, kinds := [], alts := [], laidByText := true, laidKinds := [.data, .data, .data, .data, .sentinel, .sentinel, .pinned], laidTests := true, laidLooks := .later }
def OctetTokensUptoCardSaid : Prop := Claim7.holds Tryd.pinned (.plain (OpenSpec.upto octetTokensSpec)) octetTokensUptoCard
end Rows
end Go.Proofs.YtjmkhekigdnjgaaDoor
